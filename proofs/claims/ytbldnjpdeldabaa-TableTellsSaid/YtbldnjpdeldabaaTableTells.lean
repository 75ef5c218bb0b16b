/- TableTells: whether any table of words is right, and where not, its weight and its positions, are what the reference says. No condition. -/
import Derived.Test.YtbldnjpdeldabaaTableWalk
namespace Go.Proofs.Ytbldnjpdeldabaa.TableTells
open Go.RowKit Go.Proofs.YtbldnjpdeldabaaW.PrintWords Go.Proofs.YtbldnjpdeldabaaW.PrintLast Go.Proofs.YtbldnjpdeldabaaW.PrintMore PTableTells TableA TableMath TableWalk Base
set_option linter.unusedVariables false

theorem great_small {l : List S79} (h : greatS l 100 = false) : l.length ≤ 1000000 := by
  simp [greatS] at h
  omega

theorem great_fits {l : List S79} (hi : ∀ a ∈ l, In64 a.f1) (h : greatS l 100 = false) : Fits l := by
  intro x hx
  refine ⟨hi x hx, ?_⟩
  simp [greatS] at h
  have := h.1 x hx
  omega

set_option maxHeartbeats 400000 in
set_option maxRecDepth 100000 in
theorem law_any (A : Option Addr) (c : Nat) (l : List S79) (w : World) (hr : Kd.C k79 w A l.length l) (hc : l.length ≤ c) (hi : ∀ a ∈ l, In64 a.f1) (hn : l.length ≤ 17592186044416) :
    Calls Try.prog 7 #[.slice A l.length c] w fun e w' => e = .returned (.bool true) ∧ Below w.heap.size w w' := by
  cases hg : greatS l 100
  · have hn2 := great_small hg
    have hl := great_fits hi hg
    go_enter Try.func7, Try.ntmps7
    go_wp2_with fail
    refine (awake_any _).mono ?_
    rintro e w1 ⟨rfl, b1⟩
    have r1 := Kd.C_below hr b1
    go_wp2_with fail
    refine (great_any _ _ _ _ _ r1 hc hn).mono ?_
    rintro e w2 ⟨rfl, m, rfl⟩
    have b2 := b1.trans ((bdrew w1.heap.size w1 m).mono b1.size)
    have r2 := Kd.C_below hr b2
    go_wp2_with fail
    refine (check_any _ _ _ _ r2 hc hl hn2).mono ?_
    rintro e w3 ⟨rfl, b3⟩
    replace b3 := b2.trans (b3.mono b2.size)
    have r3 := Kd.C_below hr b3
    go_wp2_with fail
    refine (rcheck_any _ _ _ _ r3 hc hl hn2).mono ?_
    rintro e w4 ⟨rfl, b4⟩
    replace b4 := b3.trans (b4.mono b3.size)
    have r4 := Kd.C_below hr b4
    go_wp2_with fail
    refine (weight_any _ _ _ _ r4 hc hl hn2).mono ?_
    rintro e w5 ⟨rfl, b5⟩
    replace b5 := b4.trans (b5.mono b4.size)
    have r5 := Kd.C_below hr b5
    go_wp2_with fail
    refine (rweight_any _ _ _ _ r5 hc hl hn2).mono ?_
    rintro e w6 ⟨rfl, b6⟩
    replace b6 := b5.trans (b6.mono b5.size)
    have r6 := Kd.C_below hr b6
    go_wp2_with fail
    refine (pos_any _ _ _ _ r6 hc hn2).mono ?_
    rintro e w7 ⟨rfl, b7⟩
    replace b7 := b6.trans (b7.mono b6.size)
    have r7 := Kd.C_below hr b7
    go_wp2_with fail
    refine (rpos_any _ _ _ _ r7 hc hn2).mono ?_
    rintro e w8 ⟨rfl, b8⟩
    replace b8 := b7.trans (b8.mono b7.size)
    go_wp2_with fail
    go_ret
    exact ⟨rfl, b8⟩
  · go_enter Try.func7, Try.ntmps7
    go_wp2_with fail
    refine (awake_any _).mono ?_
    rintro e w1 ⟨rfl, b1⟩
    have r1 := Kd.C_below hr b1
    go_wp2_with fail
    refine (great_any _ _ _ _ _ r1 hc hn).mono ?_
    rintro e w2 ⟨rfl, m, rfl⟩
    have b2 := b1.trans ((bdrew w1.heap.size w1 m).mono b1.size)
    go_wp2_with fail
    go_ret
    exact ⟨rfl, b2⟩

theorem walk (W : World) (A : Option Addr) (c : Nat) (l : List S79) (hr : Kd.C k79 W A l.length l) (hc : l.length ≤ c) (hg : ∀ a ∈ l, In64 a.f1) (hs : l.length * 24 ≤ reachBytes) :
    Calls Try.prog 7 #[.slice A l.length c] W fun e w' => e = .returned (.bool true) ∧ Below W.heap.size W w' :=
  law_any A c l W hr hc hg (by unfold reachBytes at hs; omega)
end Go.Proofs.Ytbldnjpdeldabaa.TableTells
