/- Layer 15: what is live, known and there, through puts and pops, in plain Lean. -/
import Derived.Test.YthpdamkpefgmaaaLazyPut
import Derived.Test.YthpdamkpefgmaaaRefCnt3
namespace Go.Proofs.Ythpdamkpefgmaaa.LazyInv
open Go.RowKit PMap RefCnt LazyQ HeapPure SymPure PairW BetOrd
set_option linter.unusedVariables false

abbrev lv (m : List (PK × Int)) (p : PK) : Int := (PMap.look m p).getD 0
def Byt (p : PK) : Prop := (0 ≤ p.1 ∧ p.1 ≤ 255) ∧ (0 ≤ p.2 ∧ p.2 ≤ 255)
theorem Byt.p64 {p : PK} (h : Byt p) : P64 p := by
  obtain ⟨⟨h1, h2⟩, h3, h4⟩ := h
  exact ⟨⟨by omega, by omega⟩, ⟨by omega, by omega⟩⟩
theorem drop_perm {m m' : List (PK × Int)} (h : m'.Perm m) (p : PK) : (dropL m' p).Perm (dropL m p) := h.filter _
theorem drop_drop (m : List (PK × Int)) (p : PK) : dropL (dropL m p) p = dropL m p := by
  unfold dropL
  rw [List.filter_filter]
  congr 1
  funext x
  simp
/-- taken away, then set anew -/
theorem two_sets {m m1 m2 : List (PK × Int)} {p : PK} {n : Int} (h1 : SetR m p 0 m1) (h2 : SetR m1 p n m2) : SetR m p n m2 := by
  unfold SetR at *
  rw [if_pos rfl] at h1
  by_cases h0 : n = 0
  · rw [if_pos h0] at *
    exact h2.trans ((drop_perm h1 p).trans (by rw [drop_drop]))
  · rw [if_neg h0] at *
    refine h2.trans ?_
    unfold putL
    exact ((drop_perm h1 p).trans (by rw [drop_drop])).cons _
theorem set_look {m m' : List (PK × Int)} {p : PK} {n : Int} (hd : Nd m) (h : SetR m p n m') (q : PK) : lv m' q = if q = p then n else lv m q := by
  unfold SetR at h
  by_cases h0 : n = 0
  · rw [if_pos h0] at h
    rw [lv, look_perm (hd.drop p) h q]
    by_cases hq : q = p
    · rw [if_pos hq, hq, look_drop_same, h0]; rfl
    · rw [if_neg hq, look_drop_other hq]
  · rw [if_neg h0] at h
    rw [lv, look_perm (hd.put p n) h q]
    by_cases hq : q = p
    · rw [if_pos hq, hq, look_put_same]; rfl
    · rw [if_neg hq, look_put_other _ hq]
theorem set_nd {m m' : List (PK × Int)} {p : PK} {n : Int} (hd : Nd m) (h : SetR m p n m') : Nd m' := by
  unfold SetR at h
  refine perm_nd h ?_
  split
  · exact hd.drop p
  · exact hd.put p n

structure Inv (m K : List (PK × Int)) (L : List It) : Prop where
  perm : K.Perm m
  nd : Nd m
  pos : ∀ x ∈ L, 1 ≤ x.2 ∧ Byt x.1
  sub : ∀ x ∈ K, x ∈ L
theorem Inv.nil : Inv [] [] [] := ⟨.refl _, List.nodup_nil, (fun x h => nomatch h), (fun x h => nomatch h)⟩
theorem Inv.low {m m' K : List (PK × Int)} {L : List It} (h : Inv m K L) {p : PK} (hs : SetR m p 0 m') : Inv m' (dropL K p) L := by
  refine ⟨?_, set_nd h.nd hs, h.pos, fun x hx => h.sub x (List.mem_filter.1 hx).1⟩
  unfold SetR at hs
  rw [if_pos rfl] at hs
  exact (drop_perm h.perm p).trans hs.symm
theorem Inv.high {m m' K : List (PK × Int)} {L : List It} (h : Inv m K L) {p : PK} {n : Int} (hn : 1 ≤ n) (hb : Byt p) (hs : SetR m p n m') : Inv m' (putL K p n) (pushL L K p n) := by
  have hK : ∀ x ∈ putL K p n, 1 ≤ x.2 ∧ Byt x.1 := fun x hx => by
    rcases List.mem_cons.1 hx with rfl | h1
    · exact ⟨hn, hb⟩
    · exact h.pos x (h.sub x (List.mem_filter.1 h1).1)
  refine ⟨?_, set_nd h.nd hs, ?_, ?_⟩
  · unfold SetR at hs
    rw [if_neg (by omega)] at hs
    exact ((drop_perm h.perm p).cons _).trans hs.symm
  · unfold pushL
    split
    · exact hK
    · intro x hx
      rcases List.mem_cons.1 hx with rfl | h1
      · exact ⟨hn, hb⟩
      · exact h.pos x h1
  · unfold pushL
    split
    · exact fun x hx => hx
    · intro x hx
      rcases List.mem_cons.1 hx with rfl | h1
      · exact List.mem_cons_self
      · exact List.mem_cons_of_mem _ (h.sub x (List.mem_filter.1 h1).1)
theorem push_len (L : List It) (K : List (PK × Int)) (p : PK) (n : Int) (h : K.length ≤ L.length) : (pushL L K p n).length ≤ L.length + 1 := by
  unfold pushL
  split
  · have := drop_le K p
    simp only [putL, List.length_cons]
    omega
  · simp
theorem nodup_le : ∀ (K L : List It), K.Nodup → (∀ x ∈ K, x ∈ L) → K.length ≤ L.length
  | [], _, _, _ => by simp
  | a :: t, L, hn, hs => by
    have ha : a ∈ L := hs a List.mem_cons_self
    have h1 := nodup_le t (L.erase a) (List.nodup_cons.1 hn).2 (fun x hx => by
      have hxa : x ≠ a := fun e => (List.nodup_cons.1 hn).1 (e ▸ hx)
      exact (List.mem_erase_of_ne hxa).2 (hs x (List.mem_cons_of_mem _ hx)))
    have h2 := List.length_erase_of_mem ha
    have h3 : 0 < L.length := List.length_pos_of_mem ha
    simp only [List.length_cons]
    omega
/-- known ones are fewer than those that are there -/
theorem Inv.le {m K : List (PK × Int)} {L : List It} (h : Inv m K L) : K.length ≤ L.length := by
  have hn : K.Nodup := by
    have := (perm_nd h.perm h.nd)
    unfold Nd at this
    exact List.Pairwise.of_map _ (fun a b hab e => hab (by rw [e])) this
  exact nodup_le K L hn h.sub
theorem Inv.look {m K : List (PK × Int)} {L : List It} (h : Inv m K L) {x : It} (hx : x ∈ K) : x.2 = lv m x.1 := by
  rw [lv, mem_look h.nd (h.perm.mem_iff.1 hx)]
  rfl
/-- what is live is known -/
theorem Inv.live {m K : List (PK × Int)} {L : List It} (h : Inv m K L) {x : It} (hx : x ∈ L) (hl : x.2 = lv m x.1) : x ∈ K := by
  have := (h.pos x hx).1
  cases e : PMap.look m x.1 with
  | none => rw [lv, e] at hl; simp at hl; omega
  | some n =>
    rw [lv, e] at hl
    have hm := look_some_mem e
    refine h.perm.mem_iff.2 ?_
    rwa [show x = (x.1, n) from Prod.ext rfl hl]
theorem Inv.pop {m m' K : List (PK × Int)} {L pr rest : List It} {x : It} (h : Inv m K L) (hp : (pr ++ [x] ++ rest).Perm L) (hpr : ∀ y ∈ pr, y.2 ≠ lv m y.1) (hs : SetR m x.1 0 m') : Inv m' (dropL K x.1) rest := by
  have h1 := h.low hs
  refine ⟨h1.perm, h1.nd, fun y hy => h.pos y (hp.mem_iff.1 (by simp [hy])), fun y hy => ?_⟩
  obtain ⟨hyK, hyx⟩ := List.mem_filter.1 hy
  have hyL := hp.mem_iff.2 (h.sub y hyK)
  rcases List.mem_append.1 hyL with h2 | h2
  · rcases List.mem_append.1 h2 with h3 | h3
    · exact absurd (h.look hyK) (hpr y h3)
    · rw [List.mem_singleton.1 h3] at hyx
      simp at hyx
  · exact h2
/-- where all is stale, none is live -/
theorem Inv.none {m K : List (PK × Int)} {L pre : List It} (h : Inv m K L) (hp : pre.Perm L) (hpr : ∀ y ∈ pre, y.2 ≠ lv m y.1) : m = [] := by
  cases hm : m with
  | nil => rfl
  | cons a t =>
    have ha : a ∈ K := h.perm.mem_iff.2 (by rw [hm]; exact List.mem_cons_self)
    exact absurd (h.look ha) (hpr a (hp.mem_iff.2 (h.sub a ha)))
theorem Inv.fewer {m m' K : List (PK × Int)} {L : List It} {x : It} (h : Inv m K L) (hx : x ∈ L) (hl : x.2 = lv m x.1) (hs : SetR m x.1 0 m') : m'.length + 1 = m.length := by
  unfold SetR at hs
  rw [if_pos rfl] at hs
  rw [hs.length_eq, ← drop_len h.nd x.1]
  have hm := h.perm.mem_iff.1 (h.live hx hl)
  rw [mem_look h.nd hm]
  rfl

/-- the last one that was taken: none that is there is ahead of it; it isn't live -/
structure Lst (T : List J) (m : List (PK × Int)) (L : List It) (last : It) : Prop where
  ahead : ∀ y ∈ L, betB T y last = false
  gone : PMap.look m last.1 = none
  byt : Byt last.1
theorem byt_there {p : PK} (h : Byt p) : there [] p.1 = true ∧ there [] p.2 = true := by
  obtain ⟨⟨h1, h2⟩, h3, h4⟩ := h
  exact ⟨there_iff.2 (by simp; omega), there_iff.2 (by simp; omega)⟩
theorem Lst.better {m K : List (PK × Int)} {L : List It} {last x : It} (h : Lst [] m L last) (hI : Inv m K L) (hx : x ∈ L) (hl : x.2 = lv m x.1) : betB [] last x = true := by
  cases e : betB [] last x with
  | true => rfl
  | false =>
    have he := bet_eq (T := []) Made.nil (byt_there h.byt) (byt_there (hI.pos x hx).2) e (h.ahead x hx)
    subst he
    have := (hI.pos _ hx).1
    rw [lv, h.gone] at hl
    simp at hl
    omega
theorem Lst.next {m m' K : List (PK × Int)} {L pr rest : List It} {x : It} (hI : Inv m K L) (hB : Best (betB []) L (pr ++ [x])) (hp : (pr ++ [x] ++ rest).Perm L) (hs : SetR m x.1 0 m') : Lst [] m' rest x := by
  have hxL : x ∈ L := hp.mem_iff.1 (by simp)
  refine ⟨?_, ?_, (hI.pos x hxL).2⟩
  · obtain ⟨rest', h1, h2⟩ := hB pr x [] rfl
    have h3 : (pr ++ [x] ++ rest).Perm (pr ++ [x] ++ rest') := by
      refine hp.trans ?_
      simpa using h1.symm
    have h4 := (List.perm_append_left_iff _).1 h3
    exact fun y hy => h2 y (h4.mem_iff.1 hy)
  · have h1 := hs
    unfold SetR at h1
    rw [if_pos rfl] at h1
    rw [look_perm (hI.nd.drop _) h1]
    exact look_drop_same _ _
end Go.Proofs.Ythpdamkpefgmaaa.LazyInv
