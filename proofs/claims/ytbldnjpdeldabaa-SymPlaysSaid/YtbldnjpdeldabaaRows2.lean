/- A row of the call's own, read as a list (Kd.C) for a callee. -/
import Derived.Test.YtbldnjpdeldabaaWMore
import Derived.Test.YtbldnjpdeldabaaBase
namespace Go.Proofs.Ytbldnjpdeldabaa.Rows2
open Go.RowKit Go.Proofs.YtbldnjpdeldabaaW.PrintWords Go.Proofs.YtbldnjpdeldabaaW.PrintLast Base

theorem cells_C {α : Type} (kd : Kd α) (f : α → List Value) (hf : ∀ x, (f x).length = kd.sz) (hK : ∀ w x, kd.K w x (f x)) {w : World} {b : Nat} {arr : Array Value} {e : TypeId} {fz : Nat × Nat} {l : List α}
    (h : w.heap[b]? = some (.cells arr e fz)) (ha : arr.toList.take (l.length * kd.sz) = l.flatMap f) (hl : l.length ≤ 9223372036854775807) : Kd.C kd w (some ⟨b, 0, none⟩) l.length l := by
  refine ⟨rfl, hl, fun _ => ⟨_, rfl, fun j p hj => ⟨f p, hf p, hK w p, fun i u hu => ?_⟩⟩⟩
  have hi : i < kd.sz := by have := (List.getElem?_eq_some_iff.1 hu).1; rw [hf] at this; exact this
  have hjl : j < l.length := (List.getElem?_eq_some_iff.1 hj).1
  have hg := flat_get f kd.sz hf l j i hi
  rw [hj, Option.bind_some, hu, ← ha] at hg
  have hb : j * kd.sz + i < l.length * kd.sz := by
    have h1 : (j + 1) * kd.sz ≤ l.length * kd.sz := Nat.mul_le_mul_right _ hjl
    rw [Nat.add_mul] at h1
    omega
  rw [List.getElem?_take_of_lt hb] at hg
  have : w.cell? ⟨b, 0 + (j * kd.sz + i), none⟩ = some u := by
    rw [cell_at h, Nat.zero_add, ← Array.getElem?_toList]; exact hg
  rw [addr_add]; exact this

theorem owns_C {α : Type} (kd : Kd α) (f : α → List Value) (hf : ∀ x, (f x).length = kd.sz) (hK : ∀ w x, kd.K w x (f x)) {w : World} {base : Nat} {e : TypeId} {v : Value} {n : Nat} {l : List α}
    (h : w.ownsRow base e kd.sz v n (l.flatMap f)) (hn : n = l.length) : ∃ A cap, v = .slice A l.length cap ∧ l.length ≤ cap ∧ Kd.C kd w A l.length l := by
  subst hn
  rcases h.2 with ⟨rfl, h0⟩ | ⟨g, cap, cur, rfl, hb, hg, hc, hm, hs, ht⟩
  · refine ⟨none, 0, by rw [h0], by omega, rfl, by omega, fun h => absurd h (by omega)⟩
  · exact ⟨_, cap, rfl, hc, cells_C kd f hf hK hg ht (by unfold maxLen at hm; omega)⟩
end Go.Proofs.Ytbldnjpdeldabaa.Rows2
