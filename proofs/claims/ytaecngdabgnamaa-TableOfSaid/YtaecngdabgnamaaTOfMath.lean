/- Plain laws on the printed functions that table.Check and its reference use: no memory in sight. -/
import Derived.Test.YtaecngdabgnamaaTableA
import Derived.Test.YtaecngdabgnamaaBase
import Derived.Test.YtaecngdabgnamaaPTableOfx7
import Derived.Test.YtaecngdabgnamaaPTableOfx8
import Derived.Test.YtaecngdabgnamaaPTableOfx10
import Derived.Laws.MathBits
namespace Go.Proofs.Ytaecngdabgnamaa.TableMath
open Go.RowKit Go.Proofs.Ytaecngdabgnamaa.PTableOf Go.Proofs.YtaecngdabgnamaaW.PrintWords Go.Proofs.YtaecngdabgnamaaW.PrintLast TableA
open Base (In64 toList_len toList_inj beq_toList bl_lt bl_irrefl bl_total)

def addS (a b : Int) : Int × Bool := if 0 ≤ a ∧ 0 ≤ b ∧ a + b ≤ 9223372036854775807 then (a + b, true) else (0, false)

theorem u64w (a : Int) : IntKind.u64.wrap a = a % 18446744073709551616 := by
  simp [IntKind.wrap, IntKind.bits, IntKind.signed]

theorem mul64_ev (a b : Int) (ha0 : 0 ≤ a) (ha : a ≤ 9223372036854775807) (hb0 : 0 ≤ b) (hb : b ≤ 9223372036854775807) :
    bits_Mul64.f a b = some (a * b / 18446744073709551616, (a * b) % 18446744073709551616) := by
  unfold bits_Mul64.f
  rw [and_low32 a ha0 (by omega), and_low32 b hb0 (by omega)]
  have h := mul64_arith a b ha0 (by omega) hb0 (by omega)
  have hl : ∀ z : Int, bits .and .u64 (IntKind.u64.wrap z) 4294967295 = z % 18446744073709551616 % 4294967296 := by
    intro z
    rw [u64w]
    exact and_low32 _ (Int.emod_nonneg _ (by omega)) (Int.emod_lt_of_pos _ (by omega))
  rw [hl]
  simp only [u64w]
  rw [h]

theorem mul_ev (a b : Int) (ha : In64 a) (hb : In64 b) : Ev (fun k => checked_Mul.f k a b) (mulS a b) := by
  refine Ev.of (k := 1) (checked_Mul.mono a b) ?_
  unfold checked_Mul.f checked_within.f mulS
  obtain ⟨ha1, ha2⟩ := ha
  obtain ⟨hb1, hb2⟩ := hb
  by_cases h1 : 0 ≤ a
  · by_cases h2 : 0 ≤ b
    · have ea : IntKind.u64.wrap a = a := by rw [u64w]; omega
      have eb : IntKind.u64.wrap b = b := by rw [u64w]; omega
      have hp : 0 ≤ a * b := Int.mul_nonneg h1 h2
      simp only [Option.bind_some, ge_iff_le, h1, h2, decide_true, if_true, checked_Mul.j0, Bool.not_true, Bool.false_eq_true, if_false, true_and]
      rw [ea, eb, mul64_ev a b h1 ha2 h2 hb2]
      simp only [Option.bind_some]
      generalize a * b = p at *
      by_cases h3 : p ≤ 9223372036854775807
      · rw [if_pos h3, if_pos (by omega), if_neg (by omega)]
        have : wrap64 (p % 18446744073709551616) = p := by unfold wrap64; omega
        rw [this]
      · rw [if_neg h3]
        by_cases h4 : p / 18446744073709551616 = 0
        · rw [if_pos h4, if_pos (by omega)]
        · rw [if_neg h4]
    · simp [h1, h2, checked_Mul.j0]
  · simp [h1, checked_Mul.j0]

theorem add_eq (a b : Int) (ha : In64 a) (hb : In64 b) : checked_Add.f a b = some (addS a b) := by
  obtain ⟨ha1, ha2⟩ := ha
  obtain ⟨hb1, hb2⟩ := hb
  unfold checked_Add.f checked_within.f addS
  by_cases h1 : 0 ≤ a
  · by_cases h2 : 0 ≤ b
    · have e1 : wrap64 (9223372036854775807 - b) = 9223372036854775807 - b := by unfold wrap64; omega
      simp only [Option.bind_some, ge_iff_le, h1, h2, decide_true, if_true, true_and, e1]
      by_cases h3 : a + b ≤ 9223372036854775807
      · have e2 : wrap64 (a + b) = a + b := by unfold wrap64; omega
        rw [if_pos h3, if_neg (by omega), e2]
      · rw [if_neg h3, if_pos (by omega)]
    · simp [h1, h2]
  · simp [h1]

theorem addS_in (a b : Int) : In64 (addS a b).1 := by
  unfold addS In64
  split <;> simp <;> omega
theorem mulS_in (a b : Int) : In64 (mulS a b).1 := by
  unfold mulS In64
  split
  · rename_i h
    have := Int.mul_nonneg h.1 h.2.1
    simp only
    omega
  · simp

/-- the sum of a list, looked at -/
def sumS : List Int → Int → Int × Bool
  | [], acc => (acc, true)
  | x :: r, acc => if (addS acc x).2 = true then sumS r (addS acc x).1 else (0, false)

theorem rd_drop {α : Type} (xs : List α) (d : α) (n : Nat) (h : n < xs.length) : xs.drop n = xs.getD n d :: xs.drop (n + 1) := by
  rw [List.drop_eq_getElem_cons h]
  simp [List.getD, h]
theorem rd_nat (l : List Int) (i : Nat) (h : i < l.length) : rd l (i : Int) = l[i] := by simp [rd, List.getD, h]
theorem step64 {i n : Nat} (h : i < n) (hn : n ≤ 1000000) : wrap64 ((i : Int) + 1) = ((i + 1 : Nat) : Int) := by unfold wrap64; omega

theorem sum_l0 (l : List Int) (hl : ∀ x ∈ l, In64 x) (hn : l.length ≤ 1000000) (d : Nat) : ∀ (i : Nat) (acc : Int), l.length - i = d → i ≤ l.length → In64 acc →
    Ev (fun k => checked_Sum.l0 k acc l (l.length : Int) (i : Int)) (sumS (l.drop i) acc) := by
  induction d with
  | zero =>
    intro i acc h1 h2 _
    have hi : i = l.length := by omega
    refine Ev.step (f := fun _ => some (acc, true)) (fun k => ?_) ?_
    · simp only [checked_Sum.l0]
      rw [if_neg (by omega)]
    · rw [List.drop_of_length_le (by omega)]
      exact Ev.now _
  | succ d ih =>
    intro i acc h1 h2 ha
    have hi : i < l.length := by omega
    have hx : In64 (rd l (i : Int)) := by rw [rd_nat l i hi]; exact hl _ (List.getElem_mem hi)
    refine Ev.step (f := fun k => if (addS acc (rd l (i : Int))).2 = true then checked_Sum.l0 k (addS acc (rd l (i : Int))).1 l (l.length : Int) ((i + 1 : Nat) : Int) else some (0, false)) (fun k => ?_) ?_
    · simp only [checked_Sum.l0]
      rw [if_pos (by omega), if_pos (by omega), if_pos (by omega), add_eq _ _ ha hx, step64 hi hn]
      rfl
    · have ed : l.drop i = rd l (i : Int) :: l.drop (i + 1) := by
        have := rd_drop l 0 i hi
        simpa [rd] using this
      rw [ed]
      simp only [sumS]
      by_cases hb : (addS acc (rd l (i : Int))).2 = true
      · simp only [hb, if_true]
        exact ih (i + 1) _ (by omega) (by omega) (addS_in _ _)
      · simp only [hb]
        exact Ev.now _

/-- products, then their sum -/
def prodsS : List (Int × Int) → List Int → Option (List Int)
  | [], acc => some acc
  | (a, b) :: r, acc => if (mulS a b).2 = true then prodsS r (acc ++ [(mulS a b).1]) else none
def dotS (l : List (Int × Int)) (acc : List Int) : Int × Bool :=
  match prodsS l acc with
  | some p => sumS p 0
  | none => (0, false)
/-- the reference's way -/
def interS : List (Int × Int) → Int → Int × Bool
  | [], acc => (acc, true)
  | (a, b) :: r, acc => if (mulS a b).2 = true then (if (addS acc (mulS a b).1).2 = true then interS r (addS acc (mulS a b).1).1 else (0, false)) else (0, false)

theorem sumS_append : ∀ (p q : List Int) (acc : Int), sumS (p ++ q) acc = if (sumS p acc).2 = true then sumS q (sumS p acc).1 else (0, false)
  | [], q, acc => by simp [sumS]
  | x :: r, q, acc => by
    simp only [List.cons_append, sumS]
    by_cases h : (addS acc x).2 = true
    · simp only [h, if_true]
      exact sumS_append r q _
    · simp [h]
theorem sumS_false : ∀ (p : List Int) (acc : Int), (sumS p acc).2 = false → sumS p acc = (0, false)
  | [], acc, h => by simp [sumS] at h
  | x :: r, acc, h => by
    simp only [sumS] at *
    by_cases hb : (addS acc x).2 = true
    · simp only [hb, if_true] at *
      exact sumS_false r _ h
    · simp [hb]

theorem dot_inter : ∀ (l : List (Int × Int)) (acc : List Int), dotS l acc = if (sumS acc 0).2 = true then interS l (sumS acc 0).1 else (0, false)
  | [], acc => by
    simp only [dotS, prodsS, interS]
    cases h : (sumS acc 0).2
    · simp [sumS_false acc 0 h]
    · simp only [if_true]; rw [← h]
  | (a, b) :: r, acc => by
    have ih := dot_inter r (acc ++ [(mulS a b).1])
    simp only [dotS, prodsS, interS] at *
    by_cases hm : (mulS a b).2 = true
    · simp only [hm, if_true]
      rw [ih, sumS_append]
      by_cases hs : (sumS acc 0).2 = true
      · simp only [hs, if_true, sumS]
        by_cases ha : (addS (sumS acc 0).1 (mulS a b).1).2 = true
        · simp [ha]
        · simp [ha]
      · simp [hs]
    · simp [hm]

theorem dot_l0 (a b : List Int) (ha : ∀ x ∈ a, In64 x) (hb : ∀ x ∈ b, In64 x) (hab : a.length = b.length) (hn : a.length ≤ 1000000) (d : Nat) : ∀ (i : Nat) (acc : List Int), a.length - i = d → i ≤ a.length → acc.length ≤ i → (∀ x ∈ acc, In64 x) →
    Ev (fun k => checked_Dot.l0 k a b acc (a.length : Int) (i : Int)) (dotS ((a.zip b).drop i) acc) := by
  induction d with
  | zero =>
    intro i acc h1 h2 h3 h4
    have hi : i = a.length := by omega
    refine Ev.step (f := fun k => (checked_Sum.f k acc).bind fun t => some (t.1, t.2)) (fun k => ?_) ?_
    · simp only [checked_Dot.l0]
      rw [if_neg (by omega)]
    · rw [List.drop_of_length_le (by simp; omega)]
      refine Ev.bind (a := sumS acc 0) ?_ (Ev.now _)
      have := sum_l0 acc h4 (by omega) acc.length 0 0 (by omega) (by omega) (by unfold In64; omega)
      simpa [checked_Sum.f] using this
  | succ d ih =>
    intro i acc h1 h2 h3 h4
    have hi : i < a.length := by omega
    have hi2 : i < b.length := by omega
    have hx : In64 (rd a (i : Int)) := by rw [rd_nat a i hi]; exact ha _ (List.getElem_mem hi)
    have hy : In64 (rd b (i : Int)) := by rw [rd_nat b i hi2]; exact hb _ (List.getElem_mem hi2)
    refine Ev.step (f := fun k => (checked_Mul.f k (rd a (i : Int)) (rd b (i : Int))).bind fun t => if t.2 = true then checked_Dot.l0 k a b (acc ++ [t.1]) (a.length : Int) ((i + 1 : Nat) : Int) else some (0, false)) (fun k => ?_) ?_
    · simp only [checked_Dot.l0]
      rw [if_pos (by omega), if_pos (by omega), if_pos (by omega), if_pos (by omega), step64 hi hn]
      congr 1
      funext t
      rw [if_pos (show acc.length < 17592186044416 by omega)]
    · have ed : (a.zip b).drop i = (rd a (i : Int), rd b (i : Int)) :: (a.zip b).drop (i + 1) := by
        rw [List.drop_eq_getElem_cons (by simp; omega), rd_nat a i hi, rd_nat b i hi2]
        simp
      rw [ed]
      refine Ev.bind (mul_ev _ _ hx hy) ?_
      simp only [dotS, prodsS]
      by_cases hb : (mulS (rd a (i : Int)) (rd b (i : Int))).2 = true
      · simp only [hb, if_true]
        exact ih (i + 1) _ (by omega) (by omega) (by simp; omega) (fun x hx => by
          rcases List.mem_append.1 hx with h | h
          · exact h4 x h
          · rw [List.mem_singleton.1 h]; exact mulS_in _ _)
      · simp only [hb]
        exact Ev.now _

def lenOf (x : S109) : Int := mx ((x.f0.size : Int) - 1) 0
def pairsOf (l : List S109) : List (Int × Int) := l.map fun x => (x.f1, lenOf x)
def Fits (l : List S109) : Prop := ∀ x ∈ l, In64 x.f1 ∧ x.f0.size ≤ 140737488351232

theorem rdw_nat (l : List S109) (i : Nat) (h : i < l.length) : rd_T109 l (i : Int) = l[i] := by simp [rd_T109, List.getD, h]
theorem lenOf_in {x : S109} (h : x.f0.size ≤ 140737488351232) : In64 (lenOf x) := by unfold lenOf In64 mx; split <;> omega

theorem weight_l0 (l : List S109) (hl : Fits l) (hn : l.length ≤ 1000000) (d : Nat) : ∀ (i : Nat) (cs ps : List Int), l.length - i = d → i ≤ l.length → cs.length = i → ps.length = i → (∀ x ∈ cs, In64 x) → (∀ x ∈ ps, In64 x) →
    Ev (fun k => table_Weight.l0 k cs ps l (l.length : Int) (i : Int)) (dotS ((cs ++ (l.drop i).map (·.f1)).zip (ps ++ (l.drop i).map lenOf)) []) := by
  induction d with
  | zero =>
    intro i cs ps h1 h2 h3 h4 h5 h6
    have hi : i = l.length := by omega
    refine Ev.step (f := fun k => (checked_Dot.f k cs ps).bind fun t => some (t.1, t.2)) (fun k => ?_) ?_
    · simp only [table_Weight.l0]
      rw [if_neg (by omega)]
    · rw [List.drop_of_length_le (by omega)]
      simp only [List.map_nil, List.append_nil]
      refine Ev.bind (a := dotS (cs.zip ps) []) ?_ (Ev.now _)
      have := dot_l0 cs ps h5 h6 (by omega) (by omega) cs.length 0 [] (by omega) (by omega) (by simp) (by simp)
      refine Ev.congr (fun k => ?_) this
      simp only [checked_Dot.f]
      rw [if_pos (by omega)]
      rfl
  | succ d ih =>
    intro i cs ps h1 h2 h3 h4 h5 h6
    have hi : i < l.length := by omega
    obtain ⟨hx, hy⟩ := hl l[i] (List.getElem_mem hi)
    refine Ev.step (f := fun k => table_Weight.l0 k (cs ++ [l[i].f1]) (ps ++ [lenOf l[i]]) l (l.length : Int) ((i + 1 : Nat) : Int)) (fun k => ?_) ?_
    · simp only [table_Weight.l0]
      rw [if_pos (by omega), if_pos (by omega), if_pos (by omega), if_pos (by omega), if_pos (by omega), step64 hi hn, rdw_nat l i hi]
      have e : wrap64 ((l[i].f0.size : Int) - 1) = (l[i].f0.size : Int) - 1 := by unfold wrap64; omega
      rw [e]
      rfl
    · have := ih (i + 1) (cs ++ [l[i].f1]) (ps ++ [lenOf l[i]]) (by omega) (by omega) (by simp; omega) (by simp; omega)
        (fun x hx' => by
          rcases List.mem_append.1 hx' with h | h
          · exact h5 x h
          · rw [List.mem_singleton.1 h]; exact hx)
        (fun x hx' => by
          rcases List.mem_append.1 hx' with h | h
          · exact h6 x h
          · rw [List.mem_singleton.1 h]; exact lenOf_in hy)
      rw [List.drop_eq_getElem_cons hi]
      simpa only [List.map_cons, List.append_assoc, List.cons_append, List.nil_append] using this

def weightS (l : List S109) : Int × Bool := interS (pairsOf l) 0

theorem weight_ev (l : List S109) (hl : Fits l) (hn : l.length ≤ 1000000) : Ev (fun k => table_Weight.f k l) (weightS l) := by
  have h := weight_l0 l hl hn l.length 0 [] [] (by omega) (by omega) rfl rfl (by simp) (by simp)
  have e : dotS ((([] : List Int) ++ (l.drop 0).map (fun x => S109.f1 x)).zip (([] : List Int) ++ (l.drop 0).map lenOf)) [] = weightS l := by
    rw [dot_inter]
    simp only [sumS, if_true, List.nil_append, List.drop_zero, weightS, pairsOf]
    congr 1
    clear h hl hn
    induction l with
    | nil => rfl
    | cons x r ih => simpa using ih
  rw [← e]
  exact h

theorem rdw_drop (l : List S109) (i : Nat) (h : i < l.length) : l.drop i = rd_T109 l (i : Int) :: l.drop (i + 1) := by
  rw [List.drop_eq_getElem_cons h, rdw_nat l i h]
theorem awake_ev : gluepotlaw08_awake.f 20 = some true := by decide +kernel

/-! ### the table's check -/
def firstWrong : ByteArray → Nat → List S109 → Option (Nat × Int)
  | _, _, [] => none
  | a, i, x :: r => if wrongS a x.f0 x.f1 = 0 then firstWrong x.f0 (i+1) r else some (i, wrongS a x.f0 x.f1)
def checkS (l : List S109) : Int × Int :=
  match firstWrong ⟨#[]⟩ 0 l with
  | some (i, e) => ((i : Int), e)
  | none => if (weightS l).2 = true then (-1, 0) else ((l.length : Int), 5)
def ahd (l : List S109) (k : Nat) : ByteArray := if k = 0 then ⟨#[]⟩ else (rd_T109 l ((k : Int) - 1)).f0
theorem ahd_succ (l : List S109) (k : Nat) : ahd l (k + 1) = (rd_T109 l (k : Int)).f0 := by
  simp [ahd]
theorem first_step (l : List S109) (k : Nat) (h : k < l.length) (hw : firstWrong ⟨#[]⟩ 0 l = firstWrong (ahd l k) k (l.drop k)) (h0 : wrongS (ahd l k) (rd_T109 l (k : Int)).f0 (rd_T109 l (k : Int)).f1 = 0) :
    firstWrong ⟨#[]⟩ 0 l = firstWrong (ahd l (k + 1)) (k + 1) (l.drop (k + 1)) := by
  rw [hw, rdw_drop l k h, ahd_succ]
  simp only [firstWrong]
  rw [if_pos h0]
theorem first_found (l : List S109) (k : Nat) (h : k < l.length) (hw : firstWrong ⟨#[]⟩ 0 l = firstWrong (ahd l k) k (l.drop k)) (h0 : ¬ wrongS (ahd l k) (rd_T109 l (k : Int)).f0 (rd_T109 l (k : Int)).f1 = 0) :
    checkS l = ((k : Int), wrongS (ahd l k) (rd_T109 l (k : Int)).f0 (rd_T109 l (k : Int)).f1) := by
  unfold checkS
  rw [hw, rdw_drop l k h]
  simp only [firstWrong]
  rw [if_neg h0]
theorem first_none (l : List S109) (hw : firstWrong ⟨#[]⟩ 0 l = firstWrong (ahd l l.length) l.length (l.drop l.length)) :
    checkS l = if (weightS l).2 = true then (-1, 0) else ((l.length : Int), 5) := by
  unfold checkS
  rw [hw, List.drop_length]
  rfl
end Go.Proofs.Ytaecngdabgnamaa.TableMath
