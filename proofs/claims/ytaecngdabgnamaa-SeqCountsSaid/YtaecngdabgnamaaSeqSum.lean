/- Layer 11, plain: what the counts of pairs add up to. -/
import Derived.Test.YtaecngdabgnamaaSeqPure
namespace Go.Proofs.Ytaecngdabgnamaa.SeqPure
open PMap
set_option linter.unusedVariables false
set_option linter.unusedSimpArgs false

def sumI (l : List (PK × Int)) : Int := (l.map (·.2)).sum
theorem sumI_take {l : List (PK × Int)} {k : Nat} {x : PK × Int} (h : l[k]? = some x) : sumI (l.take (k + 1)) = sumI (l.take k) + x.2 := by
  obtain ⟨h1, h2⟩ := List.getElem?_eq_some_iff.1 h
  unfold sumI
  rw [List.take_succ_eq_append_getElem h1, h2]
  simp
theorem sumI_bound {l : List (PK × Int)} {K : Int} (h : ∀ x ∈ l, -K ≤ x.2 ∧ x.2 ≤ K) : ∀ k, k ≤ l.length → -(k * K) ≤ sumI (l.take k) ∧ sumI (l.take k) ≤ k * K
  | 0, _ => by simp [sumI]
  | k + 1, hk => by
    have ih := sumI_bound h k (by omega)
    have hx := List.getElem?_eq_getElem (l := l) (i := k) (by omega)
    rw [sumI_take hx]
    have := h _ (List.getElem_mem (l := l) (by omega : k < l.length))
    have e : ((k + 1 : Nat) : Int) * K = k * K + K := by rw [Int.natCast_add, Int.add_mul]; simp
    rw [e]
    omega
theorem cover (L : List PK) : ∃ K : List PK, K.Nodup ∧ ∀ a ∈ L, a ∈ K := by
  induction L with
  | nil => exact ⟨[], List.nodup_nil, fun a h => by cases h⟩
  | cons x r ih =>
    obtain ⟨K, h1, h2⟩ := ih
    by_cases h : x ∈ K
    · exact ⟨K, h1, fun a ha => by rcases List.mem_cons.1 ha with rfl | ha; exact h; exact h2 a ha⟩
    · exact ⟨x :: K, List.nodup_cons.2 ⟨h, h1⟩, fun a ha => by rcases List.mem_cons.1 ha with rfl | ha; simp; simp [h2 a ha]⟩
theorem sum_add (K : List PK) (f g : PK → Int) : (K.map fun k => f k + g k).sum = (K.map f).sum + (K.map g).sum := by
  induction K with
  | nil => rfl
  | cons x r ih => simp only [List.map_cons, List.sum_cons, ih]; omega
theorem sum_sub (K : List PK) (f g : PK → Int) : (K.map fun k => f k - g k).sum = (K.map f).sum - (K.map g).sum := by
  induction K with
  | nil => rfl
  | cons x r ih => simp only [List.map_cons, List.sum_cons, ih]; omega
theorem sum_ite : ∀ (K : List PK) (a : PK) (c : Int), K.Nodup → a ∈ K → (K.map fun k => if a = k then c else 0).sum = c
  | [], a, c, _, h => by cases h
  | x :: r, a, c, hd, h => by
    obtain ⟨h1, h2⟩ := List.nodup_cons.1 hd
    by_cases e : a = x
    · subst e
      have : (r.map fun k => if a = k then c else 0).sum = 0 := by
        have : ∀ (r : List PK), a ∉ r → (r.map fun k => if a = k then c else 0).sum = 0 := by
          intro r
          induction r with
          | nil => intro _; rfl
          | cons y t ih =>
            intro hn
            have hy : ¬ a = y := fun e => hn (by simp [e])
            simp [hy, ih (fun e => hn (by simp [e]))]
        exact this r h1
      simp [this]
    · have := sum_ite r a c h2 (by rcases List.mem_cons.1 h with h | h; exact absurd h e; exact h)
      simp [e, this]
theorem sum_zero : ∀ (K : List PK), (K.map fun _ => (0 : Int)).sum = 0
  | [] => rfl
  | _ :: r => by simp [sum_zero r]
theorem sum_count (K : List PK) (hd : K.Nodup) : ∀ (A : List PK), (∀ a ∈ A, a ∈ K) → (K.map fun k => (A.count k : Int)).sum = A.length
  | [], _ => by simpa using sum_zero K
  | a :: A, h => by
    have e : (fun k => ((a :: A).count k : Int)) = fun k => (A.count k : Int) + if a = k then 1 else 0 := by
      funext k
      rw [List.count_cons]
      by_cases h : a = k
      · simp [h]
      · have : (a == k) = false := by simpa using h
        simp [this, h]
    rw [e, sum_add, sum_count K hd A (fun x hx => h x (by simp [hx])), sum_ite K a 1 hd (h a (by simp))]
    simp
theorem sum_lv (K : List PK) (hd : K.Nodup) : ∀ (l : List (PK × Int)), Nd l → (∀ x ∈ l, x.1 ∈ K) → (K.map fun k => lv l k).sum = sumI l
  | [], _, _ => by simpa [lv, PMap.look_nil, sumI] using sum_zero K
  | x :: l, hn, h => by
    unfold Nd at hn
    rw [List.map_cons, List.nodup_cons] at hn
    have z : lv l x.1 = 0 := by
      by_cases hz : lv l x.1 = 0
      · exact hz
      · obtain ⟨u, hu, hu1⟩ := lv_ne hz
        exact absurd (hu1 ▸ List.mem_map_of_mem hu) hn.1
    have e : (fun k => lv (x :: l) k) = fun k => lv l k + if x.1 = k then x.2 else 0 := by
      funext k
      rw [lv_cons]
      by_cases h : x.1 = k
      · subst h; simp [z]
      · simp [h]
    rw [e, sum_add, sum_lv K hd l hn.2 (fun y hy => h y (by simp [hy])), sum_ite K x.1 x.2 hd (h x (by simp))]
    simp [sumI]
    omega
theorem sum_of {l : List (PK × Int)} (hd : Nd l) (hz : NZ l) (A B : List PK) (h : ∀ q, lv l q = (A.count q : Int) - B.count q) : sumI l = (A.length : Int) - B.length := by
  obtain ⟨K, k1, k2⟩ := cover (A ++ B)
  have hk : ∀ x ∈ l, x.1 ∈ K := fun x hx => by
    have h1 := h x.1
    rw [lv_mem hd hx] at h1
    have h2 := hz x hx
    by_cases ha : x.1 ∈ A
    · exact k2 _ (by simp [ha])
    · by_cases hb : x.1 ∈ B
      · exact k2 _ (by simp [hb])
      · rw [List.count_eq_zero.2 ha, List.count_eq_zero.2 hb] at h1
        exact absurd h1 h2
  rw [← sum_lv K k1 l hd hk, show (fun k => lv l k) = fun k => (A.count k : Int) - B.count k from funext h, sum_sub, sum_count K k1 A (fun a ha => k2 a (by simp [ha])), sum_count K k1 B (fun a ha => k2 a (by simp [ha]))]
theorem sum_pairs {l : List (PK × Int)} {X : List Int} (hr : Rise l) (hz : NZ l) (h : ∀ q, lv l q = (cnt X q : Int)) : sumI l = max ((X.length : Int) - 1) 0 := by
  rw [sum_of hr.nd hz (adj X) [] (fun q => by rw [h q]; simp [cnt])]
  have := adj_len_eq X
  simp
  omega
theorem sum_change {l : List (PK × Int)} {X Y : List Int} (hr : Rise l) (hz : NZ l) (h : ∀ q, lv l q = (cnt Y q : Int) - cnt X q) : max ((X.length : Int) - 1) 0 + sumI l = max ((Y.length : Int) - 1) 0 := by
  rw [sum_of hr.nd hz (adj Y) (adj X) h]
  have := adj_len_eq X
  have := adj_len_eq Y
  omega
end Go.Proofs.Ytaecngdabgnamaa.SeqPure
