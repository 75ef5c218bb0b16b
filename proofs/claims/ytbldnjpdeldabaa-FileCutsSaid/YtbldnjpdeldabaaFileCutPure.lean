/- Layer 18, plain: the beginning of right merges is right; a merge that is done twice isn't. -/
import Derived.Test.YtbldnjpdeldabaaFilePure
namespace Go.Proofs.Ytbldnjpdeldabaa.FilePure
open Base

theorem chk_head {pre : List Mg} {m : Mg} {t : List Mg} (h : (chk pre (m :: t)).2 = 0) : errM pre m = 0 ∧ chk pre (m :: t) = chk (pre ++ [m]) t := by
  by_cases he : errM pre m = 0
  · exact ⟨he, by rw [chk, if_pos he]⟩
  · rw [chk, if_neg he] at h
    exact absurd h he
theorem chk_take : ∀ (t pre : List Mg) (k : Nat), (chk pre t).2 = 0 → chk pre (t.take k) = (-1, 0)
  | [], _, _, _ => by simp [chk]
  | m :: t, pre, 0, _ => by simp [chk]
  | m :: t, pre, k + 1, h => by
    obtain ⟨he, e⟩ := chk_head h
    rw [List.take_succ_cons, chk, if_pos he]
    exact chk_take t (pre ++ [m]) k (by rw [← e]; exact h)
theorem chk_at : ∀ (t pre : List Mg) (k : Nat) (m : Mg), (chk pre t).2 = 0 → t[k]? = some m → errM (pre ++ t.take k) m = 0
  | [], _, _, _, _, hm => by simp at hm
  | x :: t, pre, 0, m, h, hm => by
    obtain ⟨he, _⟩ := chk_head h
    simp at hm
    subst hm
    simpa using he
  | x :: t, pre, k + 1, m, h, hm => by
    obtain ⟨_, e⟩ := chk_head h
    have := chk_at t (pre ++ [x]) k m (by rw [← e]; exact h) (by simpa using hm)
    simpa using this
theorem chk_last : ∀ (t pre : List Mg) (x : Mg), (chk pre t).2 = 0 → errM (pre ++ t) x ≠ 0 → chk pre (t ++ [x]) = (((pre ++ t).length : Int), errM (pre ++ t) x)
  | [], pre, x, _, hx => by
    rw [List.append_nil] at hx
    rw [List.nil_append, chk, if_neg hx, List.append_nil]
  | m :: t, pre, x, h, hx => by
    obtain ⟨he, e⟩ := chk_head h
    have hx2 : errM (pre ++ [m] ++ t) x ≠ 0 := by simpa using hx
    have := chk_last t (pre ++ [m]) x (by rw [← e]; exact h) hx2
    rw [List.cons_append, chk, if_pos he, this]
    simp
theorem sideB_sub {s : ByteArray} {a b : List Mg} (h : sideB s a = true) (hs : ∀ x ∈ a, x ∈ b) : sideB s b = true := by
  unfold sideB at *
  rw [Bool.or_eq_true] at *
  rcases h with h | h
  · exact .inl h
  · right
    rw [List.any_eq_true] at *
    obtain ⟨x, hx, hp⟩ := h
    exact ⟨x, hs x hx, hp⟩
theorem err_twice {l : List Mg} {k : Nat} {m : Mg} (h : (chk [] l).2 = 0) (hm : l[k]? = some m) : errM l m = 8 := by
  have h0 := chk_at l [] k m h hm
  rw [List.nil_append] at h0
  unfold errM at h0
  split at h0
  · cases h0
  · rename_i hs
    split at h0
    · cases h0
    · rename_i hl
      have hs2 : (sideB m.1 (l.take k) && sideB m.2 (l.take k)) = true := by cases hx : (sideB m.1 (l.take k) && sideB m.2 (l.take k)); exact absurd hx hs; rfl
      obtain ⟨s1, s2⟩ := Bool.and_eq_true_iff.1 hs2
      have hsub : ∀ x ∈ l.take k, x ∈ l := fun x hx => List.mem_of_mem_take hx
      have e1 := sideB_sub s1 hsub
      have e2 := sideB_sub s2 hsub
      have e3 : (l.any fun x => decide (tx x = tx m)) = true := List.any_eq_true.2 ⟨m, List.mem_of_getElem? hm, by simp⟩
      unfold errM
      rw [if_neg (by rw [e1, e2]; decide), if_neg hl, if_pos e3]
theorem chk_twice {l : List Mg} {k : Nat} {m : Mg} (h : (chk [] l).2 = 0) (hm : l[k]? = some m) : chk [] (l ++ [m]) = ((l.length : Int), 8) := by
  have e := err_twice h hm
  have := chk_last l [] m h (by rw [List.nil_append, e]; decide)
  rw [List.nil_append, e] at this
  exact this
end Go.Proofs.Ytbldnjpdeldabaa.FilePure
