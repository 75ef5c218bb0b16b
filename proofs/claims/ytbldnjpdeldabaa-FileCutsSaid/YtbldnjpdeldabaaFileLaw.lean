/- Layer 18, the laws: the document's example; rows of merges read as merges. -/
import Derived.Test.YtbldnjpdeldabaaRefFile
import Derived.Test.YtbldnjpdeldabaaSrc
import Derived.Test.YtbldnjpdeldabaaRefSymPure
namespace Go.Proofs.Ytbldnjpdeldabaa.FileLaw
open Go.RowKit Go.ChangeShapes Go.WideShapes Go.Deep Go.Proofs.YtbldnjpdeldabaaW.PrintWords Go.Proofs.YtbldnjpdeldabaaW.PrintLast Go.Proofs.YtbldnjpdeldabaaW.PrintMore Base Foot Src Kinds SymPure FilePure FileWrite
set_option linter.unusedVariables false
set_option linter.unusedSimpArgs false
attribute [local go_sem ↓] Go.wp_at_zero Go.wp_at_succ

theorem C_of_src {w : World} {A : Option Addr} {l : List Mg} (h : Src w 2 A l.length (l.flatMap encSS)) (hl : l.length ≤ maxLen) : Kd.C kSS w A l.length l := by
  refine ⟨rfl, hl, fun h0 => ?_⟩
  obtain ⟨ad, e, hc⟩ := h.2 h0
  refine ⟨ad, e, fun j p hp => ⟨[.string p.1, .string p.2], rfl, kSS_mk w p, fun i u hu => hc _ u ?_⟩⟩
  have hi : i < 2 := (List.getElem?_eq_some_iff.1 hu).1
  have := flat_get encSS 2 encSS_len l j i hi
  rw [hp] at this
  exact this.trans hu
theorem src_of_C {w : World} {A : Option Addr} {l : List Mg} (h : Kd.C kSS w A l.length l) : Src w 2 A l.length (l.flatMap encSS) := by
  refine ⟨flat_len encSS 2 encSS_len l, fun h0 => ?_⟩
  obtain ⟨ad, e, hall⟩ := h.2.2 h0
  refine ⟨ad, e, fun j u hu => ?_⟩
  have hj : j = j / 2 * 2 + j % 2 := by omega
  rw [hj, flat_get encSS 2 encSS_len l (j / 2) (j % 2) (by omega)] at hu
  cases hx : l[j / 2]? with
  | none => rw [hx] at hu; cases hu
  | some p =>
    rw [hx] at hu
    obtain ⟨c, _, hK, hc⟩ := hall _ p hx
    obtain rfl := kSS_open hK
    rw [hj]
    exact hc _ u hu

def ex1 : List Mg := [(⟨#[97]⟩, ⟨#[98]⟩)]
theorem ex_chk : chk [] ex1 = (-1, 0) := by decide +kernel
theorem ex_file : fileB ex1 = ⟨#[103, 108, 117, 101, 112, 111, 116, 32, 49, 10, 54, 49, 32, 54, 50, 10]⟩ := by decide +kernel
set_option maxHeartbeats 800000 in
set_option maxRecDepth 100000 in
theorem awake_any (w : World) : Calls Try.prog 52 #[] w fun e w' => e = .returned (.bool true) ∧ Below w.heap.size w w' := by
  have b1 : Below w.heap.size w (w.alloc (.cells #[.string ⟨#[97]⟩, .string ⟨#[98]⟩] 98)) := (Below.refl _ _).alloc (Nat.le_refl _) _
  have hsrc : Src (w.alloc (.cells #[.string ⟨#[97]⟩, .string ⟨#[98]⟩] 98)) 2 (some ⟨w.heap.size, 0, none⟩) ex1.length (ex1.flatMap encSS) := ⟨rfl, fun _ => ⟨_, rfl, news_alloc rfl⟩⟩
  have hC := C_of_src hsrc (by decide)
  go_enter Try.func52, Try.ntmps52
  go_wp2_with fail
  refine (write_any (some ⟨w.heap.size, 0, none⟩) 1 ex1 _ hC (by decide +kernel) (by decide)).mono ?_
  rintro e w1 ⟨rfl, b2⟩
  rw [ex_chk, ex_file]
  go_wp2_with fail
  go_ret
  exact ⟨rfl, b1.trans (b2.mono (by simp))⟩
end Go.Proofs.Ytbldnjpdeldabaa.FileLaw
