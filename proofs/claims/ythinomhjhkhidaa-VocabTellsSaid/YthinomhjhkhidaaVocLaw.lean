/- Layer 21, the laws: two slices of the same texts are the same; the document's example. -/
import Derived.Test.YthinomhjhkhidaaVocIter
import Derived.Test.YthinomhjhkhidaaFileLaw
namespace Go.Proofs.Ythinomhjhkhidaa.Voc
open Go.RowKit Go.Maps Go.ChangeShapes Go.WideShapes Go.Deep Go.Proofs.YthinomhjhkhidaaW.PrintWords Go.Proofs.YthinomhjhkhidaaW.PrintLast Go.Proofs.YthinomhjhkhidaaW.PrintMore Base Foot ExtTail SymPure Kinds FilePure FileJoin SMap Src FileLaw
set_option linter.unusedVariables false
set_option linter.unusedSimpArgs false
attribute [local go_sem ↓] Go.wp_at_zero Go.wp_at_succ
attribute [local go_sem] max2_int min2_int max_two min_two

set_option maxHeartbeats 800000 in
set_option maxRecDepth 100000 in
theorem texts_yes (A A' : Option Addr) (c c' : Nat) (l : List ByteArray) (w : World) (h : Src w 1 A l.length (l.flatMap encT)) (h' : Src w 1 A' l.length (l.flatMap encT)) (hl : l.length ≤ 1000000) :
    Calls Try.prog 19 #[.slice A l.length c, .slice A' l.length c'] w fun e w' => e = .returned (.bool true) ∧ Below w.heap.size w w' := by
  have H := Lib.hid h
  have H' := Lib.hid h'
  clear h h'
  go_enter Try.func19, Try.ntmps19
  go_wp2_with fail
  go_loopw [5] (fun v5 wr => ∃ (k n : Nat), k ≤ l.length ∧ v5 = .int .i64 (k : Int) ∧ wr = w.drewN n) (fun i _ => l.length - (intOf i).toNat)
  case atStart => exact ⟨0, 0, by omega, rfl, rfl⟩
  case round =>
    obtain ⟨k, n, hk, rfl, rfl⟩ := hrel
    by_cases hlt : k < l.length
    · have hfm : ∀ m : List ByteArray, m.flatMap encT = m.map Value.string := fun m => by induction m with
        | nil => rfl
        | cons a t ih => rw [List.flatMap_cons, List.map_cons, ih]; rfl
      have hx : (l.flatMap encT)[k]? = some (.string l[k]) := by rw [hfm]; simp [hlt]
      obtain ⟨ad, e, p0⟩ := H.out.2 (by omega)
      cases e
      obtain ⟨ad', e, q0⟩ := H'.out.2 (by omega)
      cases e
      replace p0 := p0 k _ hx
      replace q0 := q0 k _ hx
      clear hx hfm
      generalize l[k] = x at *
      have hk0 : (0 : Int) ≤ (k : Int) := by omega
      have hk1 : (k : Int) < (l.length : Int) := by omega
      go_wp2_with fail
      go_quiet (fail)
      go_wp2_with fail
      go_roundw
      case rel => exact ⟨k + 1, _, by omega, by go_num, rfl⟩
      case measure => simp [intOf]; omega
    · obtain rfl : k = l.length := by omega
      have hnl : ¬ (l.length : Int) < (l.length : Int) := by omega
      go_wp2_with fail
      go_ret
      exact ⟨rfl, bdrew _ _ _⟩
def ex3 : List Mg := [(⟨#[97]⟩, ⟨#[98]⟩), (⟨#[98]⟩, ⟨#[99]⟩), (⟨#[97, 98]⟩, ⟨#[99]⟩)]
theorem ex3_chk : (chk [] ex3).2 = 0 := by decide +kernel
theorem ex3_long : longL (fun s => sideB s ex3) ⟨#[97, 98, 99, 98]⟩ = [⟨#[97, 98, 99]⟩, ⟨#[98]⟩] := by decide +kernel
theorem ex3_dep : depV (vD ex3) ⟨#[97, 98, 99]⟩ = 2 := by decide +kernel
abbrev exC : Array Value := #[.string ⟨#[97]⟩, .string ⟨#[98]⟩, .string ⟨#[98]⟩, .string ⟨#[99]⟩, .string ⟨#[97, 98]⟩, .string ⟨#[99]⟩]
set_option maxHeartbeats 1600000 in
set_option maxRecDepth 100000 in
theorem awake_any (w : World) : Calls Try.prog 8 #[] w fun e w' => e = .returned (.bool true) ∧ Below w.heap.size w w' := by
  have b1 : Below w.heap.size w (w.alloc (.cells exC 70)) := (Below.refl _ _).alloc (Nat.le_refl _) _
  have hsrc : Src (w.alloc (.cells exC 70)) 2 (some ⟨w.heap.size, 0, none⟩) ex3.length (ex3.flatMap encSS) := ⟨rfl, fun _ => ⟨_, rfl, news_alloc rfl⟩⟩
  have hC := C_of_src hsrc (by decide)
  go_enter Try.func8, Try.ntmps8
  go_wp2_with fail
  refine (new_any (some ⟨w.heap.size, 0, none⟩) 3 ex3 _ hC (by decide +kernel) (by decide)).mono ?_
  rintro e w1 ⟨v, rfl, b2, _, h2⟩
  rw [ex3_chk]
  obtain ⟨b, md, mu, rfl, hV⟩ := h2 ex3_chk
  have B2 := Lib.hid (b1.trans (b2.mono b1.size))
  have hL := longest_any hV ⟨#[97, 98, 99, 98]⟩ (by decide)
  rw [ex3_long] at hL
  clear h2 hC hsrc b1 b2
  go_wp2_with fail
  refine hL.mono ?_
  rintro e w2 ⟨v2, rfl, hrow, b3⟩
  obtain ⟨A3, c3, rfl⟩ := slcT hrow
  have hs3 := (Src.of_own hrow).alloc (.cells #[.string ⟨#[97, 98, 99]⟩, .string ⟨#[98]⟩] 9)
  have hs4 : Src (w2.alloc (.cells #[.string ⟨#[97, 98, 99]⟩, .string ⟨#[98]⟩] 9)) 1 (some ⟨w2.heap.size, 0, none⟩) 2 ([(⟨#[97, 98, 99]⟩ : ByteArray), ⟨#[98]⟩].flatMap encT) := ⟨rfl, fun _ => ⟨_, rfl, news_alloc rfl⟩⟩
  have hT := texts_yes A3 (some ⟨w2.heap.size, 0, none⟩) c3 2 [⟨#[97, 98, 99]⟩, ⟨#[98]⟩] _ hs3 hs4 (by decide)
  have b4 : Below w1.heap.size w1 (w2.alloc (.cells #[.string ⟨#[97, 98, 99]⟩, .string ⟨#[98]⟩] 9)) := b3.alloc b3.size _
  have HV4 := Lib.hid (hV.below b4)
  clear hL hs3 hs4 hV b3 hrow
  go_wp2_with fail
  refine hT.mono ?_
  rintro e w3 ⟨rfl, b5⟩
  have b6 := b4.trans (b5.mono b4.size)
  have hD := depth_any (HV4.out.below b5) ⟨#[97, 98, 99]⟩ (ss_small (by decide))
  rw [ex3_dep] at hD
  go_wp2_with fail
  refine hD.mono ?_
  rintro e w4 ⟨rfl, rfl⟩
  go_wp2_with fail
  go_ret
  exact ⟨rfl, B2.out.trans (b6.mono B2.out.size)⟩
end Go.Proofs.Ythinomhjhkhidaa.Voc
