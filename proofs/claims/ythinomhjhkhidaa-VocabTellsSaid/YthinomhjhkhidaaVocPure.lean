/- Layer 21, plain: what merges make: depths, uses, the longest texts of a word. -/
import Derived.Test.YthinomhjhkhidaaFilePure
import Derived.Test.YthinomhjhkhidaaSMap
namespace Go.Proofs.Ythinomhjhkhidaa.Voc
open Base SymPure FilePure SMap
set_option linter.unusedVariables false
set_option linter.unusedSimpArgs false

abbrev Wd := ByteArray × Int
/-- the entries behind n bytes -/
def D0 : Nat → List Wd
  | 0 => []
  | n + 1 => putL (D0 n) (byteS (n : Int)) 0
def valD (D : List Wd) (x : Mg) : Int := 1 + max ((SMap.look D x.1).getD 0) ((SMap.look D x.2).getD 0)
def dStep (D : List Wd) (x : Mg) : List Wd := putL D (tx x) (valD D x)
def vD (m : List Mg) : List Wd := m.foldl dStep (D0 256)
def inc (U : List Wd) (s : ByteArray) : List Wd := putL U s ((SMap.look U s).getD 0 + 1)
def uStep (U : List Wd) (x : Mg) : List Wd := inc (inc U x.1) x.2
def vU (m : List Mg) : List Wd := m.foldl uStep []
def mStep (k : Int) (x : Mg) : Int := max k ((tx x).size : Int)
def vM (m : List Mg) : Int := m.foldl mStep 1

theorem byteS_size (i : Int) : (byteS i).size = 1 := rfl
theorem byteS_inj {i j : Nat} (hi : i < 256) (hj : j < 256) (h : byteS (i : Int) = byteS (j : Int)) : i = j := by
  unfold byteS at h
  simp at h
  have := congrArg UInt8.toNat h
  simpa [Nat.mod_eq_of_lt hi, Nat.mod_eq_of_lt hj] using this
theorem byteS_of {s : ByteArray} (h : s.size = 1) : ∃ i : Nat, i < 256 ∧ s = byteS (i : Int) :=
  ⟨(s.toList.headD 0).toNat, UInt8.toNat_lt _, (one_byte h).symm⟩
theorem look_put (m : List Wd) (p q : ByteArray) (n : Int) : SMap.look (putL m p n) q = if q = p then some n else SMap.look m q := by
  by_cases h : q = p
  · rw [if_pos h, h, look_put_same]
  · rw [if_neg h, look_put_other n h]
theorem D0_look (n : Nat) (s : ByteArray) : SMap.look (D0 n) s = if ∃ i : Nat, i < n ∧ s = byteS (i : Int) then some 0 else none := by
  induction n with
  | zero => rw [if_neg (by rintro ⟨i, h, _⟩; omega)]; rfl
  | succ n ih =>
    rw [D0, look_put, ih]
    by_cases h : s = byteS (n : Int)
    · rw [if_pos h, if_pos ⟨n, by omega, h⟩]
    · rw [if_neg h]
      by_cases h2 : ∃ i : Nat, i < n ∧ s = byteS (i : Int)
      · rw [if_pos h2, if_pos (by obtain ⟨i, h3, h4⟩ := h2; exact ⟨i, by omega, h4⟩)]
      · rw [if_neg h2, if_neg (by
          rintro ⟨i, h3, h4⟩
          by_cases e : i = n
          · subst e; exact h h4
          · exact h2 ⟨i, by omega, h4⟩)]
theorem D0_len (n : Nat) (hn : n ≤ 256) : (D0 n).length = n ∧ Nd (D0 n) := by
  induction n with
  | zero => exact ⟨rfl, List.nodup_nil⟩
  | succ n ih =>
    obtain ⟨h1, h2⟩ := ih (by omega)
    refine ⟨?_, h2.put _ _⟩
    have := drop_len h2 (byteS (n : Int))
    have hn2 : SMap.look (D0 n) (byteS (n : Int)) = none := by
      rw [D0_look, if_neg]
      rintro ⟨i, h3, h4⟩
      have := byteS_inj (by omega) (by omega) h4
      omega
    rw [hn2, h1] at this
    rw [D0, putL, List.length_cons]
    simpa using this
theorem D0_256 (s : ByteArray) : SMap.look (D0 256) s = if s.size = 1 then some 0 else none := by
  rw [D0_look]
  by_cases h : s.size = 1
  · rw [if_pos h, if_pos (byteS_of h)]
  · rw [if_neg h, if_neg (by rintro ⟨i, _, e⟩; exact h (by rw [e]; rfl))]
theorem vD_snoc (m : List Mg) (x : Mg) : vD (m ++ [x]) = dStep (vD m) x := by unfold vD; rw [List.foldl_append]; rfl
theorem vU_snoc (m : List Mg) (x : Mg) : vU (m ++ [x]) = uStep (vU m) x := by unfold vU; rw [List.foldl_append]; rfl
theorem vM_snoc (m : List Mg) (x : Mg) : vM (m ++ [x]) = mStep (vM m) x := by unfold vM; rw [List.foldl_append]; rfl
theorem snoc_ind {P : List Mg → Prop} (h0 : P []) (h1 : ∀ m x, P m → P (m ++ [x])) (m : List Mg) : P m := by
  have : ∀ n (m : List Mg), m.length = n → P m := by
    intro n
    induction n with
    | zero => intro m hm; rw [List.eq_nil_of_length_eq_zero hm]; exact h0
    | succ n ih =>
      intro m hm
      have hne : m ≠ [] := by rintro rfl; cases hm
      rw [← List.dropLast_concat_getLast hne]
      exact h1 _ _ (ih _ (by simp [hm]))
  exact this _ m rfl
/-- whether a text is one of theirs -/
theorem vD_has (m : List Mg) (s : ByteArray) : (SMap.look (vD m) s).isSome = sideB s m := by
  refine snoc_ind (P := fun m => (SMap.look (vD m) s).isSome = sideB s m) ?_ (fun m x ih => ?_) m
  · show (SMap.look (D0 256) s).isSome = sideB s []
    rw [D0_256]
    unfold sideB
    by_cases h : s.size = 1 <;> simp [h]
  · rw [vD_snoc, dStep, look_put]
    unfold sideB at *
    rw [List.any_append]
    by_cases h : s = tx x
    · rw [if_pos h]; simp [h]
    · rw [if_neg h, ih]
      have h' : tx x ≠ s := fun e => h e.symm
      simp [h']
theorem vD_bd (m : List Mg) (s : ByteArray) : 0 ≤ (SMap.look (vD m) s).getD 0 ∧ (SMap.look (vD m) s).getD 0 ≤ (m.length : Int) := by
  revert s
  refine snoc_ind (P := fun m => ∀ s, 0 ≤ (SMap.look (vD m) s).getD 0 ∧ (SMap.look (vD m) s).getD 0 ≤ (m.length : Int)) ?_ (fun m x ih => ?_) m
  · intro s
    show 0 ≤ (SMap.look (D0 256) s).getD 0 ∧ (SMap.look (D0 256) s).getD 0 ≤ ((0 : Nat) : Int)
    rw [D0_256]
    split <;> simp
  · intro s
    rw [vD_snoc, dStep, look_put]
    have h1 := ih x.1
    have h2 := ih x.2
    have h3 := ih s
    split
    · unfold valD
      simp only [Option.getD_some, List.length_append, List.length_singleton]
      omega
    · simp only [List.length_append, List.length_singleton]; omega
theorem inc_look (U : List Wd) (p q : ByteArray) : (SMap.look (inc U p) q).getD 0 = (SMap.look U q).getD 0 + if p = q then 1 else 0 := by
  unfold inc
  rw [look_put]
  by_cases h : q = p
  · rw [if_pos h, if_pos h.symm, h]; rfl
  · rw [if_neg h, if_neg (fun e => h e.symm)]; simp
/-- how many sides a text is -/
def usesN (m : List Mg) (s : ByteArray) : Int := (m.map fun x => (if x.1 = s then (1 : Int) else 0) + if x.2 = s then 1 else 0).sum
theorem usesN_snoc (m : List Mg) (x : Mg) (s : ByteArray) : usesN (m ++ [x]) s = usesN m s + ((if x.1 = s then (1 : Int) else 0) + if x.2 = s then 1 else 0) := by
  unfold usesN; rw [List.map_append, List.sum_append]; simp
theorem usesN_bd (m : List Mg) (s : ByteArray) : 0 ≤ usesN m s ∧ usesN m s ≤ 2 * (m.length : Int) := by
  refine snoc_ind (P := fun m => 0 ≤ usesN m s ∧ usesN m s ≤ 2 * (m.length : Int)) ?_ (fun m x ih => ?_) m
  · show 0 ≤ (0 : Int) ∧ (0 : Int) ≤ 2 * ((0 : Nat) : Int); omega
  · rw [usesN_snoc, List.length_append, List.length_singleton]
    split <;> split <;> omega
theorem vU_look (m : List Mg) (s : ByteArray) : (SMap.look (vU m) s).getD 0 = usesN m s := by
  refine snoc_ind (P := fun m => (SMap.look (vU m) s).getD 0 = usesN m s) rfl (fun m x ih => ?_) m
  rw [vU_snoc, usesN_snoc, uStep, inc_look, inc_look, ih]
  omega
theorem vM_ge (m : List Mg) : 1 ≤ vM m ∧ ∀ x ∈ m, ((tx x).size : Int) ≤ vM m := by
  refine snoc_ind (P := fun m => 1 ≤ vM m ∧ ∀ x ∈ m, ((tx x).size : Int) ≤ vM m) ⟨by decide, fun _ h => by cases h⟩ (fun m x ih => ?_) m
  rw [vM_snoc, mStep]
  refine ⟨by omega, fun y hy => ?_⟩
  rcases List.mem_append.1 hy with h | h
  · have := ih.2 y h; omega
  · rw [List.mem_singleton.1 h]; omega
theorem vM_le (m : List Mg) (K : Int) (hK : 1 ≤ K) (h : ∀ x ∈ m, ((tx x).size : Int) ≤ K) : vM m ≤ K := by
  have : ∀ l : List Mg, (∀ x ∈ l, ((tx x).size : Int) ≤ K) → vM l ≤ K := fun l => by
    refine snoc_ind (P := fun l => (∀ x ∈ l, ((tx x).size : Int) ≤ K) → vM l ≤ K) (fun _ => hK) (fun l x ih hl => ?_) l
    rw [vM_snoc, mStep]
    have h1 := ih (fun y hy => hl y (by simp [hy]))
    have h2 := hl x (by simp)
    omega
  exact this m h
theorem has_size {m : List Mg} {s : ByteArray} (h : sideB s m = true) : (s.size : Int) ≤ vM m := by
  unfold sideB at h
  rw [Bool.or_eq_true] at h
  rcases h with h | h
  · have := of_decide_eq_true h
    have := (vM_ge m).1
    omega
  · obtain ⟨x, hx, e⟩ := List.any_eq_true.1 h
    have := (vM_ge m).2 x hx
    rw [of_decide_eq_true e] at this
    exact this

/-! ### right merges -/
theorem chk_all : ∀ (t pre : List Mg), (chk pre t).2 = 0 → ∀ k x, t[k]? = some x → errM (pre ++ t.take k) x = 0
  | [], _, _, k, x, h => by simp at h
  | y :: t, pre, h, k, x, hx => by
    unfold chk at h
    by_cases he : errM pre y = 0
    · rw [if_pos he] at h
      cases k with
      | zero =>
        simp at hx
        subst hx
        simpa using he
      | succ k =>
        have := chk_all t (pre ++ [y]) h k x (by simpa using hx)
        simpa [List.append_assoc] using this
    · rw [if_neg he] at h
      exact absurd h he
theorem right_err {m : List Mg} (h : (chk [] m).2 = 0) {k : Nat} {x : Mg} (hx : m[k]? = some x) : errM (m.take k) x = 0 := by
  have := chk_all m [] h k x hx
  simpa using this
theorem err_zero {pre : List Mg} {x : Mg} (h : errM pre x = 0) : sideB x.1 pre = true ∧ sideB x.2 pre = true ∧ x.1.size + x.2.size ≤ 65536 ∧ (pre.any fun y => decide (tx y = tx x)) = false := by
  unfold errM at h
  split at h
  · cases h
  · rename_i h1
    split at h
    · cases h
    · rename_i h2
      split at h
      · cases h
      · rename_i h3
        have h4 : (sideB x.1 pre && sideB x.2 pre) = true := by simpa using h1
        rw [Bool.and_eq_true] at h4
        exact ⟨h4.1, h4.2, by omega, by simpa using h3⟩
theorem right_two {m : List Mg} (h : (chk [] m).2 = 0) : ∀ x ∈ m, 2 ≤ (tx x).size := fun x hx => by
  have := chk_pos m [] (fun _ h => by cases h) h x hx
  rw [tx_size]; omega
theorem chk_err_place : ∀ (t pre : List Mg), (chk pre t).2 = 0 ↔ (chk pre t).1 = -1
  | [], pre => by simp [chk]
  | y :: t, pre => by
    unfold chk
    by_cases he : errM pre y = 0
    · rw [if_pos he]; exact chk_err_place t _
    · rw [if_neg he]
      constructor
      · intro h; exact absurd h he
      · intro h
        have : (0 : Int) ≤ (pre.length : Int) := by omega
        simp only at h
        omega
theorem vD_len {m : List Mg} (h : (chk [] m).2 = 0) : ∀ k, k ≤ m.length → (vD (m.take k)).length = 256 + k ∧ Nd (vD (m.take k)) := by
  intro k
  induction k with
  | zero => intro _; exact D0_len 256 (by omega)
  | succ k ih =>
    intro hk
    obtain ⟨h1, h2⟩ := ih (by omega)
    have hx := List.getElem?_eq_getElem (show k < m.length by omega)
    have he := err_zero (right_err h hx)
    have h3 := right_two h _ (List.getElem_mem (show k < m.length by omega))
    rw [List.take_succ_eq_append_getElem (by omega), vD_snoc, dStep]
    refine ⟨?_, h2.put _ _⟩
    generalize m[k] = x at *
    have hn : (SMap.look (vD (m.take k)) (tx x)).isSome = false := by
      rw [vD_has]
      unfold sideB
      rw [he.2.2.2, Bool.or_false]
      exact decide_eq_false (by omega)
    have h4 := drop_len h2 (tx x)
    rw [hn, h1] at h4
    rw [putL, List.length_cons]
    simp at h4
    omega

/-! ### the longest texts of a word -/
/-- the first n bytes -/
def pre (w : ByteArray) (n : Nat) : ByteArray := w.extract 0 n
def suf (w : ByteArray) (n : Nat) : ByteArray := w.extract n w.size
theorem pre_size (w : ByteArray) (n : Nat) : (pre w n).size = min n w.size := by unfold pre; rw [ByteArray.size_extract]; omega
theorem suf_size (w : ByteArray) (n : Nat) : (suf w n).size = w.size - n := by unfold suf; rw [ByteArray.size_extract]; omega
theorem pre_suf (w : ByteArray) (n : Nat) (h : n ≤ w.size) : pre w n ++ suf w n = w := by
  have e : w.data.size = w.size := rfl
  unfold pre suf
  apply ByteArray.ext
  simp
  try omega
/-- the longest beginning, of n bytes at most, that is a text -/
def down (H : ByteArray → Bool) (w : ByteArray) : Nat → Nat
  | 0 => 1
  | n + 1 => if n = 0 then 1 else if H (pre w (n + 1)) = true then n + 1 else down H w n
theorem down_le (H : ByteArray → Bool) (w : ByteArray) : ∀ n, 1 ≤ down H w n ∧ (1 ≤ n → down H w n ≤ n)
  | 0 => by simp [down]
  | n + 1 => by
    have := down_le H w n
    unfold down
    split
    · omega
    · split <;> omega
theorem down_has {H : ByteArray → Bool} {w : ByteArray} (h1 : H (pre w 1) = true) : ∀ n, H (pre w (down H w n)) = true
  | 0 => h1
  | n + 1 => by
    unfold down
    split
    · exact h1
    · split
      · assumption
      · exact down_has h1 n
theorem down_skip {H : ByteArray → Bool} {w : ByteArray} {k : Nat} (hk : 1 ≤ k) : ∀ n, k ≤ n → (∀ j, k < j → j ≤ n → H (pre w j) = false) → down H w n = down H w k
  | 0, h, _ => by omega
  | n + 1, h, hf => by
    by_cases e : k = n + 1
    · rw [e]
    · rw [down, if_neg (by omega), hf (n + 1) (by omega) (Nat.le_refl _)]
      simp only [Bool.false_eq_true, if_false]
      exact down_skip hk n (by omega) (fun j h1 h2 => hf j h1 (by omega))
def longF (H : ByteArray → Bool) : Nat → ByteArray → List ByteArray
  | 0, _ => []
  | f + 1, w => if w.size = 0 then [] else pre w (down H w w.size) :: longF H f (suf w (down H w w.size))
def longL (H : ByteArray → Bool) (w : ByteArray) : List ByteArray := longF H w.size w
theorem longF_more (H : ByteArray → Bool) : ∀ (f : Nat) (w : ByteArray), w.size ≤ f → longF H (f + 1) w = longF H f w
  | 0, w, h => by simp [longF, Nat.le_zero.1 h]
  | f + 1, w, h => by
    rw [longF]
    conv => rhs; rw [longF]
    split
    · rfl
    · rw [longF_more H f]
      rw [suf_size]
      have := (down_le H w w.size).1
      omega
theorem longL_step {H : ByteArray → Bool} {w : ByteArray} (h : w.size ≠ 0) : longL H w = pre w (down H w w.size) :: longL H (suf w (down H w w.size)) := by
  unfold longL
  have hd := down_le H w w.size
  have key : ∀ (f : Nat) (v : ByteArray), v.size ≤ f → longF H f v = longF H v.size v := by
    intro f
    induction f with
    | zero => intro v hv; rw [Nat.le_zero.1 hv]
    | succ f ih =>
      intro v hv
      by_cases e : v.size = f + 1
      · rw [e]
      · rw [longF_more H f v (by omega)]; exact ih v (by omega)
  have e1 : longF H w.size w = longF H (w.size - 1 + 1) w := by congr 1; omega
  rw [e1, longF, if_neg h, key _ _ (by rw [suf_size]; omega)]
theorem longL_nil {H : ByteArray → Bool} {w : ByteArray} (h : w.size = 0) : longL H w = [] := by unfold longL; rw [h]; rfl
theorem longL_cat (H : ByteArray → Bool) : ∀ (n : Nat) (w : ByteArray), w.size ≤ n → (longL H w).foldr (· ++ ·) ByteArray.empty = w ∧ (longL H w).length ≤ w.size ∧ ((∀ b : ByteArray, b.size = 1 → H b = true) → ∀ s ∈ longL H w, H s = true ∧ s.size ≠ 0) := by
  intro n
  induction n with
  | zero =>
    intro w hw
    have h0 : w.size = 0 := Nat.le_zero.1 hw
    rw [longL_nil h0]
    refine ⟨?_, by simp, fun _ _ h => by cases h⟩
    apply ByteArray.ext
    have : w.data.size = 0 := h0
    exact (Array.eq_empty_of_size_eq_zero this).symm
  | succ n ih =>
    intro w hw
    by_cases h0 : w.size = 0
    · exact ih w (by omega)
    · rw [longL_step h0]
      have hd := down_le H w w.size
      have hd2 := hd.2 (by omega)
      obtain ⟨i1, i2, i3⟩ := ih (suf w (down H w w.size)) (by rw [suf_size]; omega)
      refine ⟨?_, ?_, fun hb s hs => ?_⟩
      · rw [List.foldr_cons, i1]; exact pre_suf w _ hd2
      · rw [List.length_cons]; rw [suf_size] at i2; omega
      · rcases List.mem_cons.1 hs with e | hs
        · rw [e]
          refine ⟨down_has (hb _ (by rw [pre_size]; omega)) _, ?_⟩
          rw [pre_size]; omega
        · exact i3 hb s hs
end Go.Proofs.Ythinomhjhkhidaa.Voc
