/- Layer 21, plain: the texts rising, as the document puts them in; the depths are those of the document. -/
import Derived.Test.YthinomhjhkhidaaVocRef
import Derived.Test.YthinomhjhkhidaaRefSymPure
namespace Go.Proofs.Ythinomhjhkhidaa.Voc
open Base SymPure FilePure SMap
open FreqPure (bl bl_lt')
set_option linter.unusedVariables false
set_option linter.unusedSimpArgs false

def posR (L : List ByteArray) (s : ByteArray) : Nat → Nat
  | 0 => 0
  | n + 1 => if bl s (L.getD n s) = true then posR L s n else n + 1
def insR (L : List ByteArray) (s : ByteArray) : List ByteArray := L.take (posR L s L.length) ++ s :: L.drop (posR L s L.length)
def Srt (L : List ByteArray) : Prop := L.Pairwise fun a b => a.toList ≤ b.toList
theorem bl_no {a b : ByteArray} : bl a b = false ↔ b.toList ≤ a.toList := by
  rw [bl_lt', decide_eq_false_iff_not]; exact List.not_lt
theorem bl_yes {a b : ByteArray} : bl a b = true ↔ a.toList < b.toList := by rw [bl_lt', decide_eq_true_iff]
theorem posR_le (L : List ByteArray) (s : ByteArray) : ∀ n, posR L s n ≤ n
  | 0 => Nat.le_refl _
  | n + 1 => by
    unfold posR
    split
    · exact Nat.le_succ_of_le (posR_le L s n)
    · exact Nat.le_refl _
theorem posR_hi (L : List ByteArray) (s : ByteArray) : ∀ n j, posR L s n ≤ j → j < n → bl s (L.getD j s) = true
  | 0, j, _, h => by omega
  | n + 1, j, h1, h2 => by
    unfold posR at h1
    split at h1
    · rename_i hb
      by_cases e : j = n
      · rw [e]; exact hb
      · exact posR_hi L s n j h1 (by omega)
    · omega
theorem posR_lo (L : List ByteArray) (s : ByteArray) : ∀ n, 0 < posR L s n → bl s (L.getD (posR L s n - 1) s) = false
  | 0, h => by simp [posR] at h
  | n + 1, h => by
    unfold posR at h ⊢
    split
    · rename_i hb
      rw [if_pos hb] at h
      exact posR_lo L s n h
    · rename_i hb
      simpa using hb
theorem ins_perm (L : List ByteArray) (s : ByteArray) : (insR L s).Perm (s :: L) := by
  unfold insR
  refine List.perm_middle.trans ?_
  rw [List.take_append_drop]
theorem getD_at {L : List ByteArray} {s : ByteArray} {j : Nat} (h : j < L.length) : L.getD j s = L[j] := by simp [List.getD, h]
theorem ins_srt {L : List ByteArray} (h : Srt L) (s : ByteArray) : Srt (insR L s) := by
  have hp := posR_le L s L.length
  have hlo := posR_lo L s L.length
  have hhi := posR_hi L s L.length
  unfold insR
  generalize posR L s L.length = p at *
  unfold Srt at *
  rw [List.pairwise_append, List.pairwise_cons]
  have hL := h
  rw [← List.take_append_drop p L, List.pairwise_append] at hL
  obtain ⟨h1, h2, h3⟩ := hL
  have hbig : ∀ b ∈ L.drop p, s.toList ≤ b.toList := fun b hb => by
    obtain ⟨j, hj, e⟩ := List.mem_iff_getElem.1 hb
    rw [List.length_drop] at hj
    rw [List.getElem_drop] at e
    have := hhi (p + j) (by omega) (by omega)
    rw [getD_at (by omega), e] at this
    exact List.le_of_lt (bl_yes.1 this)
  have hsm : ∀ a ∈ L.take p, a.toList ≤ s.toList := fun a ha => by
    obtain ⟨j, hj, e⟩ := List.mem_take_iff_getElem.1 ha
    have h4 := bl_no.1 (hlo (by omega))
    rw [getD_at (by omega)] at h4
    by_cases ej : j = p - 1
    · subst ej; rw [← e]; exact h4
    · refine List.le_trans ?_ h4
      rw [← e]
      exact List.pairwise_iff_getElem.1 h j (p - 1) (by omega) (by omega) (by omega)
  refine ⟨h1, ⟨hbig, h2⟩, fun a ha b hb => ?_⟩
  rcases List.mem_cons.1 hb with rfl | hb
  · exact hsm a ha
  · exact h3 a ha b hb
/-- the document's texts of some merges -/
def wantL (l : List Mg) : List ByteArray := l.foldl (fun L m => insR L (tx m)) byteTexts
theorem want_snoc (l : List Mg) (x : Mg) : wantL (l ++ [x]) = insR (wantL l) (tx x) := by unfold wantL; rw [List.foldl_append]; rfl
theorem bytes_srt : Srt byteTexts := by
  unfold Srt byteTexts
  rw [List.pairwise_map]
  refine (List.pairwise_lt_range (n := 256)).imp_of_mem ?_
  intro a b ha hb hab
  have h1 := List.mem_range.1 ha
  have h2 := List.mem_range.1 hb
  refine bl_no.1 ?_
  have e : ∀ i : Nat, (byteS (i : Int)).toList = [UInt8.ofNat i] := fun i => by unfold byteS; rw [ByteArray.toList_eq]; simp
  show Op.bytesLess (byteS (b : Int)).toList (byteS (a : Int)).toList = false
  rw [e, e]
  have h3 : ¬ UInt8.ofNat b < UInt8.ofNat a := by
    rw [UInt8.lt_iff_toNat_lt]
    simp [Nat.mod_eq_of_lt h1, Nat.mod_eq_of_lt h2]
    omega
  simp [Op.bytesLess, h3]
theorem want_all (l : List Mg) : Srt (wantL l) ∧ (wantL l).Perm (byteTexts ++ l.map tx) := by
  refine snoc_ind (P := fun l => Srt (wantL l) ∧ (wantL l).Perm (byteTexts ++ l.map tx)) ⟨bytes_srt, by simp [wantL]⟩ (fun l x ih => ?_) l
  rw [want_snoc]
  refine ⟨ins_srt ih.1 _, (ins_perm _ _).trans ?_⟩
  rw [List.map_append, ← List.append_assoc]
  refine ((List.Perm.cons _ ih.2)).trans ?_
  exact (List.perm_append_singleton _ _).symm
theorem want_len (l : List Mg) : (wantL l).length = 256 + l.length := by
  rw [(want_all l).2.length_eq, List.length_append, List.length_map]; simp [byteTexts]
theorem perm_of_sub : ∀ (a b : List ByteArray), a.Nodup → (∀ x ∈ a, x ∈ b) → b.length ≤ a.length → a.Perm b
  | [], b, _, _, h => by rw [List.eq_nil_of_length_eq_zero (Nat.le_zero.1 h)]
  | x :: t, b, hd, hs, hl => by
    obtain ⟨b1, b2, rfl⟩ := List.append_of_mem (hs x List.mem_cons_self)
    rw [List.nodup_cons] at hd
    refine (List.Perm.cons x (perm_of_sub t (b1 ++ b2) hd.2 (fun y hy => ?_) ?_)).trans List.perm_middle.symm
    · have hne : y ≠ x := fun e => hd.1 (e ▸ hy)
      have := hs y (List.mem_cons_of_mem _ hy)
      simp only [List.mem_append, List.mem_cons] at this ⊢
      rcases this with h | h | h
      · exact .inl h
      · exact absurd h hne
      · exact .inr h
    · simp only [List.length_append, List.length_cons] at hl ⊢
      omega
/-- the keys, sorted, are the document's texts -/
theorem keys_want {l : List Mg} (h : (chk [] l).2 = 0) {ks : List (List UInt8)} (hS : Sorted (vD l) ks) : kTx ks = wantL l := by
  have hD := vD_len h l.length (Nat.le_refl _)
  rw [List.take_length] at hD
  have e1 : ∀ b : ByteArray, (⟨b.data.toList.toArray⟩ : ByteArray) = b := fun b => by cases b; simp
  have p1 : (kTx ks).Perm ((vD l).map (·.1)) := by
    have := hS.1.map (fun k : List UInt8 => (⟨k.toArray⟩ : ByteArray))
    rw [List.map_map] at this
    refine this.trans ?_
    rw [show ((fun k : List UInt8 => (⟨k.toArray⟩ : ByteArray)) ∘ fun x : Wd => x.1.data.toList) = (·.1) from funext fun x => e1 x.1]
  have p2 : ((vD l).map (·.1)).Perm (byteTexts ++ l.map tx) := by
    refine perm_of_sub _ _ hD.2 (fun s hs => ?_) (by rw [List.length_append, List.length_map, List.length_map, hD.1]; simp [byteTexts])
    obtain ⟨x, hx, rfl⟩ := List.mem_map.1 hs
    have h1 := vD_has l x.1
    rw [mem_look hD.2 hx] at h1
    have h2 : sideB x.1 l = true := h1.symm
    unfold sideB at h2
    rw [Bool.or_eq_true] at h2
    rcases h2 with h2 | h2
    · obtain ⟨i, hi, e⟩ := byteS_of (of_decide_eq_true h2)
      refine List.mem_append_left _ ?_
      rw [e]
      exact List.mem_map.2 ⟨i, List.mem_range.2 hi, rfl⟩
    · obtain ⟨y, hy, e⟩ := List.any_eq_true.1 h2
      exact List.mem_append_right _ (List.mem_map.2 ⟨y, hy, of_decide_eq_true e⟩)
  have s1 : Srt (kTx ks) := by
    unfold Srt kTx
    rw [List.pairwise_map]
    refine hS.2.imp fun {a b} h => ?_
    rw [ByteArray.toList_eq, ByteArray.toList_eq]
    simpa using h
  refine List.Perm.eq_of_pairwise (le := fun a b : ByteArray => a.toList ≤ b.toList) (fun a b _ _ h1 h2 => ?_) s1 (want_all l).1 ((p1.trans p2).trans (want_all l).2.symm)
  exact toList_inj (List.le_antisymm h1 h2)

/-! ### depths -/
def Rt (l : List Mg) : Prop := ∀ k x, l[k]? = some x → errM (l.take k) x = 0
theorem rt_of {l : List Mg} (h : (chk [] l).2 = 0) : Rt l := fun _ _ hx => right_err h hx
theorem Rt.pre {l : List Mg} {x : Mg} (h : Rt (l ++ [x])) : Rt l := fun k y hy => by
  have hk := (List.getElem?_eq_some_iff.1 hy).1
  have := h k y (by rw [List.getElem?_append_left hk]; exact hy)
  rwa [List.take_append_of_le_length (by omega)] at this
theorem Rt.last {l : List Mg} {x : Mg} (h : Rt (l ++ [x])) : errM l x = 0 := by
  have := h l.length x (by simp)
  simpa using this
theorem Rt.two : ∀ (l : List Mg), Rt l → ∀ x ∈ l, 2 ≤ (tx x).size := fun l => by
  refine snoc_ind (P := fun l => Rt l → ∀ x ∈ l, 2 ≤ (tx x).size) (fun _ _ h => by cases h) (fun l y ih h x hx => ?_) l
  rcases List.mem_append.1 hx with hx | hx
  · exact ih h.pre x hx
  · rw [List.mem_singleton.1 hx, tx_size]
    have := err_pos (ih h.pre) h.last
    omega
theorem dep_get {l : List Mg} {s : ByteArray} (h : sideB s l = true) : depV (vD l) s = (SMap.look (vD l) s).getD 0 := by
  have := vD_has l s
  rw [h] at this
  unfold depV
  cases e : SMap.look (vD l) s with
  | none => rw [e] at this; cases this
  | some v => rfl
theorem made_app {l : List Mg} {x : Mg} {s : ByteArray} : madeN (l ++ [x]) s = match madeN l s with
    | some i => some i
    | none => if tx x = s then some l.length else none := by
  unfold madeN
  rw [List.findIdx?_append]
  cases h : l.findIdx? fun m => decide (tx m = s) with
  | some i => rfl
  | none => by_cases e : tx x = s <;> simp [List.findIdx?_cons, e]
theorem rdep_eq (l : List Mg) : Rt l → ∀ n, l.length ≤ n → ∀ s, rdep n l s = depV (vD l) s := by
  refine snoc_ind (P := fun l => Rt l → ∀ n, l.length ≤ n → ∀ s, rdep n l s = depV (vD l) s) ?_ (fun l x ih => ?_) l
  · intro _ n _ s
    have e : depV (vD []) s = if s.size = 1 then 0 else -1 := by
      show (SMap.look (D0 256) s).getD (-1) = _
      rw [D0_256]
      split <;> rfl
    rw [e]
    cases n <;> simp [rdep, madeN]
  · intro h n hn s
    rw [List.length_append, List.length_singleton] at hn
    obtain ⟨n, rfl⟩ : ∃ k, n = k + 1 := ⟨n - 1, by omega⟩
    have ih := ih h.pre
    have he := err_zero h.last
    have h2 := Rt.two _ h x (by simp)
    have hlk : ∀ s, s ≠ tx x → depV (vD (l ++ [x])) s = depV (vD l) s := fun s hs => by
      unfold depV
      rw [vD_snoc, dStep, look_put, if_neg hs]
    by_cases h1 : s.size = 1
    · rw [hlk s (fun e => by rw [e] at h1; omega), ← ih (n + 1) (by omega) s]
      unfold rdep
      rw [if_pos h1, if_pos h1]
    · cases hm : madeN l s with
      | some i =>
        obtain ⟨m, hmx, hmt, _⟩ := made_some hm
        have hil := (List.getElem?_eq_some_iff.1 hmx).1
        have hne : s ≠ tx x := fun e => by
          have := he.2.2.2
          rw [List.any_eq_false] at this
          have h9 := this m (List.mem_of_getElem? hmx)
          simp [hmt, e] at h9
        rw [hlk s hne, ← ih (n + 1) (by omega) s]
        have e3 : (l ++ [x]).getD i (s, s) = l.getD i (s, s) := by simp [List.getD, List.getElem?_append_left hil]
        rw [rdep, rdep, if_neg h1, if_neg h1, made_app, hm]
        simp only [e3, List.take_append_of_le_length (Nat.le_of_lt hil)]
      | none =>
        by_cases e : tx x = s
        · have hm2 : madeN (l ++ [x]) s = some l.length := by rw [made_app, hm]; simp [e]
          have e3 : (l ++ [x]).getD l.length (s, s) = x := by simp [List.getD]
          rw [rdep, if_neg h1, hm2]
          simp only [e3, List.take_left]
          rw [ih n (by omega), ih n (by omega), dep_get he.1, dep_get he.2.1, ← e]
          unfold depV
          rw [vD_snoc, dStep, look_put, if_pos rfl]
          rfl
        · have hm2 : madeN (l ++ [x]) s = none := by rw [made_app, hm]; simp [e]
          rw [hlk s (fun h => e h.symm), ← ih (n + 1) (by omega) s, rdep, rdep, if_neg h1, if_neg h1, hm, hm2]
end Go.Proofs.Ythinomhjhkhidaa.Voc
