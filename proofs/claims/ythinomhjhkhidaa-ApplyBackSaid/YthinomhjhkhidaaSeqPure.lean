/- Layer 11, plain: words as chains of cells; how often pairs are there; merging a pair. -/
import Derived.Test.YthinomhjhkhidaaMMap
namespace Go.Proofs.Ythinomhjhkhidaa.SeqPure
open PMap
set_option linter.unusedVariables false
set_option linter.unusedSimpArgs false

def adj : List Int → List PK
  | a :: b :: r => (a, b) :: adj (b :: r)
  | _ => []
def cnt (l : List Int) (q : PK) : Nat := (adj l).count q
def mrg (p : PK) (z : Int) : List Int → List Int × Nat
  | a :: b :: r => if a = p.1 ∧ b = p.2 then (z :: (mrg p z r).1, (mrg p z r).2 + 1) else (a :: (mrg p z (b :: r)).1, (mrg p z (b :: r)).2)
  | l => (l, 0)
def lnk : Option Int → Option Int → List PK
  | some a, some b => [(a, b)]
  | _, _ => []
theorem adj_cons (a : Int) (l : List Int) : adj (a :: l) = lnk (some a) l.head? ++ adj l := by
  cases l with
  | nil => rfl
  | cons b r => simp [adj, lnk]
theorem adj_append : ∀ (l r : List Int), adj (l ++ r) = adj l ++ lnk l.getLast? r.head? ++ adj r
  | [], r => by simp [adj, lnk]
  | [a], r => by simp [adj_cons, adj, lnk]
  | a :: b :: l, r => by
    have ih := adj_append (b :: l) r
    have e : (a :: b :: l).getLast? = (b :: l).getLast? := by simp
    rw [List.cons_append, List.cons_append, show adj (a :: b :: (l ++ r)) = (a, b) :: adj (b :: (l ++ r)) from rfl, ← List.cons_append, ih, e]
    simp [adj]
theorem adj_len (l : List Int) : (adj l).length ≤ l.length := by
  induction l with
  | nil => simp [adj]
  | cons a l ih => rw [adj_cons, List.length_append, List.length_cons]; have : (lnk (some a) l.head?).length ≤ 1 := by cases l <;> simp [lnk]
                   omega
theorem adj_len_eq : ∀ (l : List Int), (adj l).length = l.length - 1
  | [] => rfl
  | [_] => rfl
  | a :: b :: l => by have := adj_len_eq (b :: l); simp [adj] at *; omega
theorem cnt_le (l : List Int) (q : PK) : cnt l q ≤ l.length := Nat.le_trans List.count_le_length (adj_len l)

abbrev Knot := Nat × Int
abbrev Cel := Int × Int × Int
def nxe (r : List Knot) (e : Int) : Int := match r with | [] => e | x :: _ => (x.1 : Int)
def lastI (p : Int) : List Knot → Int
  | [] => p
  | x :: r => lastI (x.1 : Int) r
def Seg (C : List Cel) : Int → List Knot → Int → Prop
  | _, [], _ => True
  | p, x :: r, e => C[x.1]? = some (x.2, p, nxe r e) ∧ Seg C (x.1 : Int) r e
theorem Seg.app {C : List Cel} : ∀ {a b : List Knot} {p e : Int}, Seg C p (a ++ b) e ↔ Seg C p a (nxe b e) ∧ Seg C (lastI p a) b e
  | [], b, p, e => by simp [Seg, lastI]
  | x :: a, b, p, e => by
    have ih := Seg.app (C := C) (a := a) (b := b) (p := (x.1 : Int)) (e := e)
    have hn : nxe (a ++ b) e = nxe a (nxe b e) := by cases a <;> rfl
    simp only [List.cons_append, Seg, lastI, ih, hn, and_assoc]
theorem Seg.frame {C C' : List Cel} : ∀ {l : List Knot} {p e : Int}, Seg C p l e → (∀ x ∈ l, C'[x.1]? = C[x.1]?) → Seg C' p l e
  | [], _, _, _, _ => trivial
  | x :: r, p, e, h, hk => ⟨(hk x (by simp)).trans h.1, Seg.frame h.2 fun y hy => hk y (by simp [hy])⟩
def Idx (X : List Knot) : Prop := X.Pairwise fun x y => x.1 < y.1
def syms (X : List Knot) : List Int := X.map (·.2)
/-- what a join makes of the cells -/
def joinC (C : List Cel) (i : Nat) (z back : Int) : List Knot → List Cel
  | [] => C.set i (z, back, -1)
  | (k, u) :: r => (C.set i (z, back, (k : Int))).set k (u, (i : Int), nxe r (-1))
theorem joinC_len (C : List Cel) (i : Nat) (z back : Int) (r : List Knot) : (joinC C i z back r).length = C.length := by cases r <;> simp [joinC]
theorem joinC_far {C : List Cel} {i : Nat} {z back : Int} {r : List Knot} {n : Nat} (h : n ≠ i) (h2 : ∀ x ∈ r.head?, n ≠ x.1) : (joinC C i z back r)[n]? = C[n]? := by
  cases r with
  | nil => simp [joinC, List.getElem?_set, Ne.symm h]
  | cons x r =>
    have h3 := h2 x (by simp)
    simp [joinC, List.getElem?_set, Ne.symm h, Ne.symm h3]
theorem join_seg {C : List Cel} {pre rest : List Knot} {i j : Nat} {s t z : Int} (h : Seg C (-1) (pre ++ (i, s) :: (j, t) :: rest) (-1)) (hI : Idx (pre ++ (i, s) :: (j, t) :: rest)) :
    Seg (joinC C i z (lastI (-1) pre) rest) (-1) (pre ++ (i, z) :: rest) (-1) ∧ Idx (pre ++ (i, z) :: rest) := by
  obtain ⟨h1, h2, h3, h4⟩ := Seg.app.1 h
  obtain ⟨i1, i2, i3⟩ := List.pairwise_append.1 hI
  obtain ⟨i4, i5⟩ := List.pairwise_cons.1 i2
  obtain ⟨i6, i7⟩ := List.pairwise_cons.1 i5
  have il : i < C.length := (List.getElem?_eq_some_iff.1 h2).1
  have hpre : ∀ x ∈ pre, x.1 < i := fun x hx => i3 x hx (i, s) (by simp)
  have hres : ∀ x ∈ rest, i < x.1 := fun x hx => i4 x (by simp [hx])
  refine ⟨Seg.app.2 ⟨h1.frame fun x hx => joinC_far (by have := hpre x hx; omega) fun y hy => ?_, ?_, ?_⟩, ?_⟩
  · have := hpre x hx; have := hres y (List.mem_of_mem_head? hy); omega
  · cases rest with
    | nil => simp [joinC, List.getElem?_set, il, nxe]
    | cons x r =>
      have := hres x (by simp)
      have hk : x.1 ≠ i := by omega
      simp [joinC, List.getElem?_set, il, nxe, hk]
  · cases rest with
    | nil => trivial
    | cons x r =>
      obtain ⟨k, u⟩ := x
      obtain ⟨g1, g2⟩ := h4
      have kl : k < C.length := (List.getElem?_eq_some_iff.1 g1).1
      refine ⟨by simp [joinC, List.getElem?_set, kl], g2.frame fun y hy => joinC_far ?_ fun y' hy' => ?_⟩
      · have := hres y (by simp [hy]); omega
      · have e : y' = (k, u) := by simpa using hy'.symm
        subst e
        have := (List.pairwise_cons.1 i7).1 y hy
        show y.1 ≠ k
        simp at this
        omega
  · refine List.pairwise_append.2 ⟨i1, List.pairwise_cons.2 ⟨hres, i7⟩, fun x hx y hy => ?_⟩
    rcases List.mem_cons.1 hy with rfl | hy
    · exact hpre x hx
    · exact i3 x hx y (by simp [hy])

def oadd (o : Option PK) (by_ : Int) (q : PK) : Int := if o = some q then by_ else 0
def hd2 (s : Int) (r : List Knot) : Option PK := (syms r).head?.map fun t => (s, t)
def la2 (pre : List Knot) (s : Int) : Option PK := (syms pre).getLast?.map fun a => (a, s)
theorem count_lnk (a b : Option Int) (q : PK) : ((lnk a b).count q : Int) = if (a.bind fun x => b.map fun y => (x, y)) = some q then 1 else 0 := by
  cases a with
  | none => simp [lnk]
  | some x =>
    cases b with
    | none => simp [lnk]
    | some y =>
      by_cases h : (x, y) = q
      · simp [lnk, h]
      · have : ((x, y) == q) = false := by simpa using h
        simp [lnk, List.count_cons, h]
theorem syms_app (a b : List Knot) : syms (a ++ b) = syms a ++ syms b := List.map_append
theorem syms_cons (x : Knot) (b : List Knot) : syms (x :: b) = x.2 :: syms b := rfl
/-- what a join changes of the counts -/
theorem join_cnt (pre rest : List Knot) (i j : Nat) (s t z : Int) (q : PK) :
    (cnt (syms (pre ++ (i, z) :: rest)) q : Int) = cnt (syms (pre ++ (i, s) :: (j, t) :: rest)) q + oadd (la2 pre s) (-1) q + oadd (some (s, t)) (-1) q + oadd (hd2 t rest) (-1) q + oadd (la2 pre z) 1 q + oadd (hd2 z rest) 1 q := by
  have e1 : cnt (syms (pre ++ (i, z) :: rest)) q = (adj (syms pre)).count q + (lnk (syms pre).getLast? (some z)).count q + ((lnk (some z) (syms rest).head?).count q + (adj (syms rest)).count q) := by
    rw [cnt, syms_app, syms_cons, adj_append, adj_cons, List.count_append, List.count_append, List.count_append]
    simp
  have e2 : cnt (syms (pre ++ (i, s) :: (j, t) :: rest)) q = (adj (syms pre)).count q + (lnk (syms pre).getLast? (some s)).count q + ((lnk (some s) (some t)).count q + ((lnk (some t) (syms rest).head?).count q + (adj (syms rest)).count q)) := by
    rw [cnt, syms_app, syms_cons, syms_cons, adj_append, adj_cons, adj_cons, List.count_append, List.count_append, List.count_append, List.count_append]
    simp
  have c1 := count_lnk (syms pre).getLast? (some z) q
  have c2 := count_lnk (some z) (syms rest).head? q
  have c3 := count_lnk (syms pre).getLast? (some s) q
  have c4 := count_lnk (some s) (some t) q
  have c5 := count_lnk (some t) (syms rest).head? q
  rw [e1, e2]
  have f1 : ∀ z, ((syms pre).getLast?.bind fun x => (some z : Option Int).map fun y => (x, y)) = la2 pre z := fun z => by unfold la2; cases (syms pre).getLast? <;> rfl
  have f2 : ∀ z, ((some z : Option Int).bind fun x => (syms rest).head?.map fun y => (x, y)) = hd2 z rest := fun z => rfl
  rw [f1] at c1 c3
  rw [f2] at c2 c5
  have c4' : ((lnk (some s) (some t)).count q : Int) = if some (s, t) = some q then 1 else 0 := c4
  have m1 : ∀ o, oadd o (-1) q = -(if o = some q then 1 else 0) := fun o => by unfold oadd; split <;> rfl
  have m2 : ∀ o, oadd o 1 q = (if o = some q then 1 else 0) := fun o => rfl
  rw [m1, m1, m1, m2, m2, ← c1, ← c2, ← c3, ← c4', ← c5]
  omega

/-- a round that joins, and one that does not -/
theorem mrg_yes {p : PK} {z s t : Int} {r : List Int} (h : (s, t) = p) : mrg p z (s :: t :: r) = (z :: (mrg p z r).1, (mrg p z r).2 + 1) := by
  subst h; simp [mrg]
theorem mrg_no {p : PK} {z s : Int} {r : List Int} (h : ∀ t, r.head? = some t → (s, t) ≠ p) : mrg p z (s :: r) = (s :: (mrg p z r).1, (mrg p z r).2) := by
  cases r with
  | nil => simp [mrg]
  | cons t r =>
    have := h t rfl
    rw [mrg, if_neg (fun e => this (by rw [e.1, e.2]))]
theorem mrg_len (p : PK) (z : Int) (l : List Int) : (mrg p z l).1.length + (mrg p z l).2 = l.length := by
  fun_induction mrg p z l with
  | case1 a b r h ih => simp at *; omega
  | case2 a b r h ih => simp at *; omega
  | case3 l h => simp
/-- lists of counted pairs that rise, none of them 0 -/
def befP (a b : PK) : Prop := a.1 < b.1 ∨ a.1 = b.1 ∧ a.2 < b.2
instance (a b : PK) : Decidable (befP a b) := by unfold befP; infer_instance
def Rise (l : List (PK × Int)) : Prop := l.Pairwise fun x y => befP x.1 y.1
def NZ (l : List (PK × Int)) : Prop := ∀ x ∈ l, x.2 ≠ 0
theorem befP.irrefl (a : PK) : ¬ befP a a := by unfold befP; omega
theorem befP.trans {a b c : PK} (h : befP a b) (g : befP b c) : befP a c := by unfold befP at *; omega
theorem befP.ne {a b : PK} (h : befP a b) : a ≠ b := by rintro rfl; exact befP.irrefl _ h
theorem befP.tri {a b : PK} (h : a ≠ b) : befP a b ∨ befP b a := by
  unfold befP
  by_cases h1 : a.1 = b.1
  · have : a.2 ≠ b.2 := fun e => h (Prod.ext h1 e)
    omega
  · omega
theorem Rise.nd {l : List (PK × Int)} (h : Rise l) : Nd l := by
  unfold Nd
  rw [List.nodup_iff_pairwise_ne, List.pairwise_map]
  exact h.imp fun h => h.ne
def lv (m : List (PK × Int)) (p : PK) : Int := (PMap.look m p).getD 0
theorem lv_perm {m m' : List (PK × Int)} (hd : Nd m) (hp : m'.Perm m) (p : PK) : lv m' p = lv m p := by unfold lv; rw [look_perm hd hp]
theorem lv_cons (x : PK × Int) (m : List (PK × Int)) (p : PK) : lv (x :: m) p = if x.1 = p then x.2 else lv m p := by
  unfold lv; rw [look_cons]; split <;> simp
theorem lv_mem {m : List (PK × Int)} (hd : Nd m) {x : PK × Int} (h : x ∈ m) : lv m x.1 = x.2 := by unfold lv; rw [mem_look hd h]; rfl
theorem lv_ne {m : List (PK × Int)} {p : PK} (h : lv m p ≠ 0) : ∃ x ∈ m, x.1 = p := by
  unfold lv at h
  cases e : PMap.look m p with
  | none => rw [e] at h; simp at h
  | some n => exact ⟨_, look_some_mem e, rfl⟩
/-- two of these that read alike are one -/
theorem rise_uniq : ∀ {l l' : List (PK × Int)}, Rise l → NZ l → Rise l' → NZ l' → (∀ q, lv l q = lv l' q) → l = l'
  | [], [], _, _, _, _, _ => rfl
  | [], y :: l', _, _, h3, h4, h => by
    have := h y.1
    rw [lv_mem h3.nd (by simp)] at this
    exact absurd this.symm (h4 y (by simp))
  | x :: l, [], h1, h2, _, _, h => by
    have := h x.1
    rw [lv_mem h1.nd (by simp)] at this
    exact absurd this (h2 x (by simp))
  | x :: l, y :: l', h1, h2, h3, h4, h => by
    obtain ⟨a1, a2⟩ := List.pairwise_cons.1 h1
    obtain ⟨b1, b2⟩ := List.pairwise_cons.1 h3
    have hxy : x.1 = y.1 := by
      by_cases e : x.1 = y.1
      · exact e
      · exfalso
        have e1 := h x.1
        rw [lv_mem h1.nd (by simp)] at e1
        obtain ⟨u, hu, hu1⟩ := lv_ne (m := y :: l') (p := x.1) (by rw [← e1]; exact h2 x (by simp))
        have e2 := h y.1
        rw [lv_mem h3.nd (by simp)] at e2
        obtain ⟨v, hv, hv1⟩ := lv_ne (m := x :: l) (p := y.1) (by rw [e2]; exact h4 y (by simp))
        have g1 : befP y.1 x.1 := by
          rcases List.mem_cons.1 hu with rfl | hu
          · exact absurd hu1.symm e
          · rw [← hu1]; exact b1 u hu
        have g2 : befP x.1 y.1 := by
          rcases List.mem_cons.1 hv with rfl | hv
          · exact absurd hv1 e
          · rw [← hv1]; exact a1 v hv
        exact befP.irrefl _ (g1.trans g2)
    have hn : x.2 = y.2 := by
      have e1 := h x.1
      rw [lv_mem h1.nd (by simp), hxy, lv_mem h3.nd (by simp)] at e1
      exact e1
    have ex : x = y := Prod.ext hxy hn
    subst ex
    rw [rise_uniq a2 (fun z hz => h2 z (by simp [hz])) b2 (fun z hz => h4 z (by simp [hz])) fun q => ?_]
    by_cases e : x.1 = q
    · subst e
      have z1 : lv l x.1 = 0 := by
        by_cases hz : lv l x.1 = 0
        · exact hz
        · obtain ⟨u, hu, hu1⟩ := lv_ne hz
          have := a1 u hu
          rw [hu1] at this
          exact absurd this (befP.irrefl _)
      have z2 : lv l' x.1 = 0 := by
        by_cases hz : lv l' x.1 = 0
        · exact hz
        · obtain ⟨u, hu, hu1⟩ := lv_ne hz
          have := b1 u hu
          rw [hu1] at this
          exact absurd this (befP.irrefl _)
      rw [z1, z2]
    · have := h q
      rwa [lv_cons, lv_cons, if_neg e, if_neg e] at this
end Go.Proofs.Ythinomhjhkhidaa.SeqPure
