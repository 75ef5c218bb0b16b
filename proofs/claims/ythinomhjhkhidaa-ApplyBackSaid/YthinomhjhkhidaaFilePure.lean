/- Layer 18, plain: whether merges are right, and where not. -/
import Derived.Test.YthinomhjhkhidaaSymPure2
namespace Go.Proofs.Ythinomhjhkhidaa.FilePure
open Base SymPure

abbrev Mg := ByteArray × ByteArray
def tx (m : Mg) : ByteArray := m.1 ++ m.2
def sideB (s : ByteArray) (pre : List Mg) : Bool := decide (s.size = 1) || pre.any fun m => decide (tx m = s)
def errM (pre : List Mg) (m : Mg) : Int :=
  if (sideB m.1 pre && sideB m.2 pre) = false then 7 else if 65536 < m.1.size + m.2.size then 4 else if (pre.any fun x => decide (tx x = tx m)) = true then 8 else 0
/-- the place and the error of merges, behind some that are right -/
def chk : List Mg → List Mg → Int × Int
  | _, [] => (-1, 0)
  | pre, m :: t => if errM pre m = 0 then chk (pre ++ [m]) t else ((pre.length : Int), errM pre m)
theorem chk_end (l : List Mg) : chk (l.take l.length) (l.drop l.length) = (-1, 0) := by simp [chk]
theorem chk_go {l : List Mg} {k : Nat} {m : Mg} (h : l[k]? = some m) (he : errM (l.take k) m = 0) : chk (l.take k) (l.drop k) = chk (l.take (k + 1)) (l.drop (k + 1)) := by
  obtain ⟨hk, e⟩ := List.getElem?_eq_some_iff.1 h
  rw [List.drop_eq_getElem_cons hk, e, chk, if_pos he, List.take_succ_eq_append_getElem hk, e]
theorem chk_stop {l : List Mg} {k : Nat} {m : Mg} (h : l[k]? = some m) (he : errM (l.take k) m ≠ 0) : chk (l.take k) (l.drop k) = ((k : Int), errM (l.take k) m) := by
  obtain ⟨hk, e⟩ := List.getElem?_eq_some_iff.1 h
  rw [List.drop_eq_getElem_cons hk, e, chk, if_neg he, List.length_take, Nat.min_eq_left (by omega)]

/-- the symbol table behind right merges -/
structure Rel (T : List J) (pre : List Mg) : Prop where
  made : Made T
  texts : T.map J.s = pre.map tx
theorem Rel.nil : Rel [] [] := ⟨.nil, rfl⟩
theorem Rel.len {T : List J} {pre : List Mg} (h : Rel T pre) : T.length = pre.length := by
  have := congrArg List.length h.texts
  simpa using this
theorem Rel.any {T : List J} {pre : List Mg} (h : Rel T pre) (t : ByteArray) : (T.any fun x => decide (x.s = t)) = pre.any fun m => decide (tx m = t) := by
  have h1 : (T.any fun x => decide (x.s = t)) = (T.map J.s).any fun s => decide (s = t) := by rw [List.any_map]; rfl
  have h2 : (pre.any fun m => decide (tx m = t)) = (pre.map tx).any fun s => decide (s = t) := by rw [List.any_map]; rfl
  rw [h1, h2, h.texts]
theorem Rel.find {T : List J} {pre : List Mg} (h : Rel T pre) (t : ByteArray) : (findS T t).2 = sideB t pre := by
  unfold sideB
  rw [← h.any t]
  by_cases h1 : t.size = 1
  · simp [findS, h1]
  · have e : (idx T t).isSome = T.any fun x => decide (x.s = t) := by
      unfold idx
      rw [Bool.eq_iff_iff, List.findIdx?_isSome]
    unfold findS
    rw [if_neg h1]
    cases hi : idx T t with
    | none => rw [hi] at e; simp [h1, ← e]
    | some i => rw [hi] at e; simp [h1, ← e]
theorem one_byte {t : ByteArray} (h : t.size = 1) : byteS ((t.toList.headD 0).toNat : Int) = t := by
  apply toList_inj
  have hl : t.toList.length = 1 := by rw [toList_len]; exact h
  match ht : t.toList, hl with
  | [x], _ =>
    have : (byteS ((x.toNat : Nat) : Int)).toList = [x] := by
      unfold byteS
      rw [ByteArray.toList_eq]
      simp
    simpa [ht] using this
theorem found {T : List J} {t : ByteArray} (h : (findS T t).2 = true) : there T (findS T t).1 = true ∧ textS T (findS T t).1 = t := by
  unfold findS at *
  by_cases h1 : t.size = 1
  · rw [if_pos h1]
    have hb := UInt8.toNat_lt (t.toList.headD 0)
    have h2 : ((t.toList.headD 0).toNat : Int) < 256 := by omega
    exact ⟨there_iff.2 ⟨Int.natCast_nonneg _, Int.lt_of_lt_of_le h2 (by omega)⟩, by rw [text_low (Int.natCast_nonneg _) h2]; exact one_byte h1⟩
  · rw [if_neg h1] at h ⊢
    cases hi : idx T t with
    | none => rw [hi] at h; cases h
    | some i =>
      unfold idx at hi
      rw [List.findIdx?_eq_some_iff_getElem] at hi
      obtain ⟨hl, hp, _⟩ := hi
      have hs : T[i].s = t := by simpa using hp
      exact ⟨there_iff.2 ⟨by simp; omega, by simp; omega⟩, by
        show textS T (256 + (i : Int)) = t
        rw [text_high (x := T[i]) (by omega) (by rw [show (256 + (i : Int) - 256).toNat = i by omega]; exact List.getElem?_eq_getElem hl), hs]⟩
theorem Rel.side_pos {T : List J} {pre : List Mg} (h : Rel T pre) {s : ByteArray} (hs : sideB s pre = true) : 1 ≤ s.size := by
  unfold sideB at hs
  rw [Bool.or_eq_true] at hs
  rcases hs with h1 | h1
  · have := of_decide_eq_true h1; omega
  · rw [← h.any s, List.any_eq_true] at h1
    obtain ⟨x, hx, hp⟩ := h1
    have := h.made.two x hx
    rw [of_decide_eq_true hp] at this
    omega
theorem tx_size (m : Mg) : (tx m).size = m.1.size + m.2.size := by unfold tx; exact ByteArray.size_append
theorem Rel.err {T : List J} {pre : List Mg} (h : Rel T pre) {m : Mg} (ha : sideB m.1 pre = true) (hb : sideB m.2 pre = true) : joinE T (findS T m.1).1 (findS T m.2).1 = errM pre m := by
  obtain ⟨t1, x1⟩ := found (by rw [h.find]; exact ha : (findS T m.1).2 = true)
  obtain ⟨t2, x2⟩ := found (by rw [h.find]; exact hb : (findS T m.2).2 = true)
  have e : (findS T (m.1 ++ m.2)).2 = pre.any fun x => decide (tx x = tx m) := by
    rw [h.find]
    unfold sideB
    have h1 := h.side_pos ha
    have h2 := h.side_pos hb
    have h3 := tx_size m
    have : decide ((m.1 ++ m.2).size = 1) = false := decide_eq_false (by show ¬ (tx m).size = 1; omega)
    rw [this, Bool.false_or]
    rfl
  unfold joinE errM
  rw [x1, x2, e, t1, t2, ha, hb]
  simp
theorem Rel.step {T : List J} {pre : List Mg} (h : Rel T pre) {m : Mg} (he : errM pre m = 0) : Rel (joinT T (findS T m.1).1 (findS T m.2).1) (pre ++ [m]) := by
  have hab : sideB m.1 pre = true ∧ sideB m.2 pre = true := by
    unfold errM at he
    split at he
    · cases he
    · rename_i hh
      have : (sideB m.1 pre && sideB m.2 pre) = true := by cases hx : (sideB m.1 pre && sideB m.2 pre); exact absurd hx hh; rfl
      exact Bool.and_eq_true_iff.1 this
  have hj := h.err hab.1 hab.2
  rw [he] at hj
  obtain ⟨_, x1⟩ := found (by rw [h.find]; exact hab.1 : (findS T m.1).2 = true)
  obtain ⟨_, x2⟩ := found (by rw [h.find]; exact hab.2 : (findS T m.2).2 = true)
  unfold joinT
  rw [if_pos hj]
  refine ⟨.snoc h.made hj, ?_⟩
  rw [List.map_append, List.map_append, h.texts, x1, x2]
  rfl
theorem err_pos {pre : List Mg} (hp : ∀ x ∈ pre, 2 ≤ (tx x).size) {m : Mg} (he : errM pre m = 0) : 1 ≤ m.1.size ∧ 1 ≤ m.2.size := by
  have side : ∀ s, sideB s pre = true → 1 ≤ s.size := fun s hs => by
    unfold sideB at hs
    rw [Bool.or_eq_true] at hs
    rcases hs with h1 | h1
    · have := of_decide_eq_true h1; omega
    · rw [List.any_eq_true] at h1
      obtain ⟨x, hx, hq⟩ := h1
      have := hp x hx
      rw [of_decide_eq_true hq] at this
      omega
  unfold errM at he
  split at he
  · cases he
  · rename_i hh
    have : (sideB m.1 pre && sideB m.2 pre) = true := by cases hx : (sideB m.1 pre && sideB m.2 pre); exact absurd hx hh; rfl
    have h2 := Bool.and_eq_true_iff.1 this
    exact ⟨side _ h2.1, side _ h2.2⟩
theorem chk_pos : ∀ (t pre : List Mg), (∀ x ∈ pre, 2 ≤ (tx x).size) → (chk pre t).2 = 0 → ∀ m ∈ t, 1 ≤ m.1.size ∧ 1 ≤ m.2.size
  | [], _, _, _, m, hm => by simp at hm
  | x :: t, pre, hp, h, m, hm => by
    unfold chk at h
    by_cases he : errM pre x = 0
    · rw [if_pos he] at h
      have hx := err_pos hp he
      have hp2 : ∀ y ∈ pre ++ [x], 2 ≤ (tx y).size := fun y hy => by
        rcases List.mem_append.1 hy with h1 | h1
        · exact hp y h1
        · rw [List.mem_singleton.1 h1, tx_size]; omega
      rcases List.mem_cons.1 hm with h1 | h1
      · rw [h1]; exact hx
      · exact chk_pos t (pre ++ [x]) hp2 h m h1
    · rw [if_neg he] at h
      exact absurd h he
end Go.Proofs.Ythinomhjhkhidaa.FilePure
