/- Layer 20: words by merges, in plain words. -/
import Derived.Test.YthinomhjhkhidaaFilePure
import Derived.Test.YthinomhjhkhidaaSeqPure
namespace Go.Proofs.Ythinomhjhkhidaa.CodPure
open Base SymPure PMap SeqPure
set_option linter.unusedVariables false
set_option linter.unusedSimpArgs false

theorem mrg_none {p : PK} {z : Int} : ∀ (l : List Int), p ∉ adj l → mrg p z l = (l, 0)
  | [], _ => rfl
  | [a], _ => rfl
  | a :: b :: r, h => by
    have h1 : ¬ (a = p.1 ∧ b = p.2) := fun e => h (by rw [adj, e.1, e.2]; simp)
    have ih := mrg_none (p := p) (z := z) (b :: r) (fun e => h (by rw [adj]; exact List.mem_cons_of_mem _ e))
    rw [mrg, if_neg h1, ih]
def prJ (x : J) : PK := (x.a, x.b)
/-- which symbol a pair is joined to -/
def jdx (T : List J) (p : PK) : Option Nat := T.findIdx? fun x => decide (prJ x = p)
def by_ (T : List J) (p : PK) : Option Int := (jdx T p).map fun i : Nat => 256 + (i : Int)
def Mk (T : List J) (M : List (PK × Int)) : Prop := ∀ p : PK, PMap.look M p = by_ T p
theorem Mk.nil : Mk [] [] := fun p => rfl
theorem by_new {T : List J} (hM : Made T) {a c : Int} (hE : joinE T a c = 0) : by_ T (a, c) = none := by
  obtain ⟨e1, e2, h3, h4⟩ := join_zero hE
  have hi := find_none h4
  unfold by_ jdx
  rw [Option.map_eq_none_iff, List.findIdx?_eq_none_iff]
  intro x hx
  obtain ⟨i, hi1, hi2⟩ := List.getElem_of_mem hx
  have hx1 := hM.at i x (List.getElem?_eq_some_iff.2 ⟨hi1, hi2⟩)
  unfold idx at hi
  rw [List.findIdx?_eq_none_iff] at hi
  have := hi x hx
  rw [decide_eq_false_iff_not] at this ⊢
  intro he
  apply this
  have ea : x.a = a := congrArg Prod.fst he
  have ec : x.b = c := congrArg Prod.snd he
  rw [hx1.2.2.2.2, ea, ec]
theorem by_snoc {T : List J} (x : J) (hn : by_ T (prJ x) = none) (p : PK) : by_ (T ++ [x]) p = if p = prJ x then some (256 + (T.length : Int)) else by_ T p := by
  unfold by_ jdx at *
  rw [List.findIdx?_append]
  by_cases hp : p = prJ x
  · subst hp
    rw [Option.map_eq_none_iff] at hn
    rw [hn]
    simp
  · rw [if_neg hp]
    have : ¬ prJ x = p := fun h => hp h.symm
    simp [this]
theorem Mk.snoc {T : List J} {M : List (PK × Int)} (h : Mk T M) (hM : Made T) {a c : Int} (hE : joinE T a c = 0) : Mk (joinT T a c) (putL M (a, c) (joinI T a c)) := by
  unfold joinT joinI
  rw [if_pos hE, if_pos hE]
  intro p
  rw [by_snoc _ (show by_ T (prJ ⟨a, c, _⟩) = none from by_new hM hE)]
  by_cases hp : p = (a, c)
  · subst hp; rw [look_put_same, if_pos (show (a, c) = prJ ⟨a, c, _⟩ from rfl)]
  · rw [look_put_other _ hp, if_neg (show ¬ p = prJ ⟨a, c, _⟩ from hp), h p]
theorem by_some {T : List J} {p : PK} {id : Int} (h : by_ T p = some id) : ∃ (i : Nat) (x : J), T[i]? = some x ∧ prJ x = p ∧ id = 256 + (i : Int) := by
  unfold by_ jdx at h
  rw [Option.map_eq_some_iff] at h
  obtain ⟨i, hi, rfl⟩ := h
  rw [List.findIdx?_eq_some_iff_getElem] at hi
  obtain ⟨h1, h2, _⟩ := hi
  exact ⟨i, T[i], List.getElem?_eq_getElem h1, by simpa using h2, rfl⟩
theorem made_by {T : List J} (hM : Made T) {i : Nat} {x : J} (hx : T[i]? = some x) : by_ T (prJ x) = some (256 + (i : Int)) := by
  cases h : by_ T (prJ x) with
  | none =>
    unfold by_ jdx at h
    rw [Option.map_eq_none_iff, List.findIdx?_eq_none_iff] at h
    obtain ⟨h1, h2⟩ := List.getElem?_eq_some_iff.1 hx
    have := h x (h2 ▸ List.getElem_mem h1)
    simp at this
  | some id =>
    obtain ⟨j, y, hy, he, rfl⟩ := by_some h
    have e1 := hM.at i x hx
    have e2 := hM.at j y hy
    have ea : y.a = x.a := congrArg Prod.fst he
    have eb : y.b = x.b := congrArg Prod.snd he
    have es : y.s = x.s := by rw [e1.2.2.2.2, e2.2.2.2.2, ea, eb]
    have i1 := hM.idx i x hx
    have i2 := hM.idx j y hy
    rw [es, i1] at i2
    cases i2
    rfl

/-- the best pair so far: of what has come the one with the least symbol behind b -/
structure NB (T : List J) (b : Int) (done : List PK) (p : PK) (id : Int) : Prop where
  none_ : id = 0 → p = (0, 0) ∧ ∀ q ∈ done, ∀ z, by_ T q = some z → ¬ b < z
  some_ : id ≠ 0 → p ∈ done ∧ by_ T p = some id ∧ b < id ∧ ∀ q ∈ done, ∀ z, by_ T q = some z → b < z → id ≤ z
theorem NB.start (T : List J) (b : Int) : NB T b [] (0, 0) 0 := ⟨fun _ => ⟨rfl, by simp⟩, fun h => absurd rfl h⟩
theorem by_pos {T : List J} {p : PK} {id : Int} (h : by_ T p = some id) : 256 ≤ id ∧ id < 256 + (T.length : Int) := by
  obtain ⟨i, x, hx, _, rfl⟩ := by_some h
  have := (List.getElem?_eq_some_iff.1 hx).1
  omega
theorem NB.in64 {T : List J} {b : Int} {done : List PK} {p : PK} {id : Int} (h : NB T b done p id) : 0 ≤ id ∧ id < 256 + (T.length : Int) := by
  by_cases hi : id = 0
  · omega
  · have := by_pos (h.some_ hi).2.1
    omega
theorem NB.skip {T : List J} {b : Int} {done : List PK} {p : PK} {id : Int} (h : NB T b done p id) {q : PK} (hq : ∀ z, by_ T q = some z → ¬ (b < z ∧ (id = 0 ∨ z < id))) : NB T b (done ++ [q]) p id := by
  refine ⟨fun h0 => ⟨(h.none_ h0).1, fun r hr z hz => ?_⟩, fun h0 => ?_⟩
  · rcases List.mem_append.1 hr with hr | hr
    · exact (h.none_ h0).2 r hr z hz
    · rw [List.mem_singleton] at hr; subst hr
      intro hb
      exact hq z hz ⟨hb, .inl h0⟩
  · obtain ⟨h1, h2, h3, h4⟩ := h.some_ h0
    refine ⟨List.mem_append_left _ h1, h2, h3, fun r hr z hz hb => ?_⟩
    rcases List.mem_append.1 hr with hr | hr
    · exact h4 r hr z hz hb
    · rw [List.mem_singleton] at hr; subst hr
      have := hq z hz
      omega
theorem NB.take {T : List J} {b : Int} {done : List PK} {p : PK} {id : Int} (h : NB T b done p id) {q : PK} {z : Int} (hz : by_ T q = some z) (hb : b < z) (hi : id = 0 ∨ z < id) : NB T b (done ++ [q]) q z := by
  have hp := by_pos hz
  refine ⟨fun h0 => by omega, fun _ => ⟨by simp, hz, hb, fun r hr y hy hby => ?_⟩⟩
  rcases List.mem_append.1 hr with hr | hr
  · by_cases h0 : id = 0
    · exact absurd hby ((h.none_ h0).2 r hr y hy)
    · have := (h.some_ h0).2.2.2 r hr y hy hby
      omega
  · rw [List.mem_singleton] at hr; subst hr
    rw [hz] at hy; cases hy
    omega

/-! ### the symbols of a word behind the first k merges -/
def encK (T : List J) (s : List Int) : Nat → List Int
  | 0 => s
  | k + 1 => match T[k]? with
    | some x => (mrg (prJ x) (256 + (k : Int)) (encK T s k)).1
    | none => encK T s k
theorem encK_skip {T : List J} {s : List Int} {k : Nat} (h : ∀ x, T[k]? = some x → prJ x ∉ adj (encK T s k)) : encK T s (k + 1) = encK T s k := by
  show (match T[k]? with | some x => _ | none => _) = _
  cases hx : T[k]? with
  | none => rfl
  | some x => show (mrg _ _ _).1 = _; rw [mrg_none _ (h x hx)]
theorem encK_skips {T : List J} {s : List Int} {k : Nat} : ∀ n, (∀ i x, k ≤ i → i < k + n → T[i]? = some x → prJ x ∉ adj (encK T s k)) → encK T s (k + n) = encK T s k
  | 0, _ => rfl
  | n + 1, h => by
    have ih := encK_skips n (fun i x h1 h2 => h i x h1 (by omega))
    rw [← Nat.add_assoc, encK_skip (fun x hx => by rw [ih]; exact h _ x (by omega) (by omega) hx), ih]
/-- the texts of symbols, laid in a row -/
def catL (T : List J) (l : List Int) : List UInt8 := l.flatMap fun i => (textS T i).data.toList
theorem mrg_cat {T : List J} {p : PK} {z : Int} (hz : (textS T z).data.toList = (textS T p.1).data.toList ++ (textS T p.2).data.toList) : ∀ (n : Nat) (l : List Int), l.length ≤ n → catL T (mrg p z l).1 = catL T l
  | _, [], _ => rfl
  | 0, _ :: _, h => by simp at h
  | n + 1, s :: r, h => by
    by_cases hh : ∃ t r2, r = t :: r2 ∧ (s, t) = p
    · obtain ⟨t, r2, rfl, he⟩ := hh
      rw [mrg_yes he]
      have ih := mrg_cat hz n r2 (by simp at h; omega)
      unfold catL at *
      simp only [List.flatMap_cons, ih]
      rw [hz, ← he, List.append_assoc]
    · rw [mrg_no (fun t ht he => hh (by cases r with
        | nil => simp at ht
        | cons t' r2 => simp at ht; subst ht; exact ⟨_, _, rfl, he⟩))]
      have ih := mrg_cat hz n r (by simp at h; omega)
      unfold catL at *
      simp only [List.flatMap_cons, ih]
theorem mrg_mem {p : PK} {z : Int} : ∀ (n : Nat) (l : List Int), l.length ≤ n → ∀ x ∈ (mrg p z l).1, x ∈ l ∨ x = z
  | _, [], _ => by simp [mrg]
  | 0, _ :: _, h => by simp at h
  | n + 1, s :: r, h => by
    intro x hx
    by_cases hh : ∃ t r2, r = t :: r2 ∧ (s, t) = p
    · obtain ⟨t, r2, rfl, he⟩ := hh
      rw [mrg_yes he] at hx
      rcases List.mem_cons.1 hx with rfl | hx
      · exact .inr rfl
      · rcases mrg_mem n r2 (by simp at h; omega) x hx with h1 | h1
        · exact .inl (by simp [h1])
        · exact .inr h1
    · rw [mrg_no (fun t ht he => hh (by cases r with
        | nil => simp at ht
        | cons t' r2 => simp at ht; subst ht; exact ⟨_, _, rfl, he⟩))] at hx
      rcases List.mem_cons.1 hx with rfl | hx
      · exact .inl (by simp)
      · rcases mrg_mem n r (by simp at h; omega) x hx with h1 | h1
        · exact .inl (by simp [h1])
        · exact .inr h1
theorem encK_law {T : List J} (hM : Made T) {s : List Int} (hs : ∀ x ∈ s, there T x = true) : ∀ k, catL T (encK T s k) = catL T s ∧ (∀ x ∈ encK T s k, there T x = true) ∧ (encK T s k).length ≤ s.length
  | 0 => ⟨rfl, hs, Nat.le_refl _⟩
  | k + 1 => by
    obtain ⟨h1, h2, h3⟩ := encK_law hM hs k
    unfold encK
    cases hx : T[k]? with
    | none => exact ⟨h1, h2, h3⟩
    | some x =>
      have hk := (List.getElem?_eq_some_iff.1 hx).1
      have ha := hM.at k x hx
      have hz : textS T (256 + (k : Int)) = textS T x.a ++ textS T x.b := by
        rw [text_high (by omega) (x := x) (by rw [← hx]; congr 1; omega), ha.2.2.2.2]
      refine ⟨?_, fun y hy => ?_, ?_⟩
      · show catL T (mrg _ _ _).1 = _
        rw [mrg_cat (by rw [hz]; simp [prJ]) _ _ (Nat.le_refl _), h1]
      · rcases mrg_mem _ _ (Nat.le_refl _) y hy with h | rfl
        · exact h2 y h
        · rw [there_iff]; omega
      · show (mrg _ _ _).1.length ≤ _
        have := mrg_len (prJ x) (256 + (k : Int)) (encK T s k)
        omega
theorem cat_bytes (T : List J) : ∀ (l : List UInt8), catL T (l.map fun c => (c.toNat : Int)) = l
  | [] => rfl
  | c :: r => by
    have ih := cat_bytes T r
    unfold catL at *
    have hc : c.toNat < 256 := UInt8.toNat_lt c
    rw [List.map_cons, List.flatMap_cons, ih]
    have : there T (c.toNat : Int) = true := by rw [there_iff]; omega
    rw [text_low (by omega) (by omega)]
    show [UInt8.ofNat (c.toNat : Int).toNat] ++ r = c :: r
    simp
theorem bytes_there (T : List J) (l : List UInt8) : ∀ x ∈ l.map (fun c => (c.toNat : Int)), there T x = true := by
  intro x hx
  obtain ⟨c, _, rfl⟩ := List.mem_map.1 hx
  have hc : c.toNat < 256 := UInt8.toNat_lt c
  rw [there_iff]
  omega
end Go.Proofs.Ythinomhjhkhidaa.CodPure
