/- Layer 18: the reference writes. -/
import Derived.Test.YtbldnjpdeldabaaRefFile
import Derived.Test.YtbldnjpdeldabaaRefPut
namespace Go.Proofs.Ytbldnjpdeldabaa.RefWrite
open Go.RowKit Go.ChangeShapes Go.WideShapes Go.Deep Go.Proofs.YtbldnjpdeldabaaW.PrintWords Go.Proofs.YtbldnjpdeldabaaW.PrintLast Go.Proofs.YtbldnjpdeldabaaW.PrintMore Base Foot Kinds FilePure FileWrite HexPut RefPut RefFile
set_option linter.unusedVariables false
set_option linter.unusedSimpArgs false
attribute [local go_sem ↓] Go.wp_at_zero Go.wp_at_succ

set_option maxHeartbeats 3200000 in
set_option maxRecDepth 100000 in
theorem rwrite_any (A : Option Addr) (cp : Nat) (l : List Mg) (w : World) (hr : Kd.C kSS w A l.length l) (hc : l.length ≤ cp) (hg : ∀ m ∈ l, m.1.size ≤ 1000 ∧ m.2.size ≤ 1000) (hl : l.length ≤ 1000) :
    Calls Try.prog 57 #[.slice A l.length cp] w fun e w' => e = .returned (.tuple #[.string (fileB l), .int .i64 (chk [] l).2]) ∧ ∃ n, w' = w.drewN n := by
  go_enter Try.func57, Try.ntmps57
  go_wp2_with fail
  refine (rcheck_any A cp l w hr hc hg (by omega)).mono ?_
  rintro e w1 ⟨rfl, n1, h1⟩
  have hr1 : Kd.C kSS w1 A l.length l := by rw [h1]; exact Kd.C_drewN hr n1
  have H1 := Lib.hid h1
  clear h1
  have hfb : (chk [] l).2 ≠ 0 → fileB l = ⟨#[]⟩ := fun h => if_neg h
  have hfc : (chk [] l).2 = 0 → fileB l = ⟨(fileL l).toArray⟩ := fun h => if_pos h
  generalize hE : (chk [] l).2 = er at *
  have HE := Lib.hid hE
  clear hE
  generalize (chk [] l).1 = pl at *
  by_cases he : er = 0
  · subst he
    have HFC := Lib.hid (hfc rfl)
    clear hfb hfc
    go_wp2_with fail
    go_loopw [6, 7] (fun v6 v7 wr => ∃ (k : Nat) (f : ByteArray), k ≤ l.length ∧ v7 = .int .i64 (k : Int) ∧ v6 = .string f ∧ Hid (f = ⟨(fileL (l.take k)).toArray⟩) ∧ Hid (∃ n, wr = w.drewN n)) (fun _ i _ => l.length - (intOf i).toNat)
    case atStart => exact ⟨0, _, by omega, rfl, rfl, (rfl : (⟨#[103, 108, 117, 101, 112, 111, 116, 32, 49, 10]⟩ : ByteArray) = ⟨(fileL (l.take 0)).toArray⟩), ⟨_, H1.out⟩⟩
    case round =>
      clear hr1
      obtain ⟨k, f, hk, rfl, rfl, hF, hD⟩ := hrel
      by_cases hlt : k < l.length
      · have hrw : Kd.C kSS wr A l.length l := by obtain ⟨n, e⟩ := hD.out; rw [e]; exact Kd.C_drewN hr n
        have hx := List.getElem?_eq_getElem hlt
        obtain ⟨ad, e1, hx0, hx1⟩ := at_SS hrw hx
        cases e1
        have hgx := hg _ (List.getElem_mem hlt)
        have hst := fileL_step hx
        have hlen := fileL_len (l.take k) (fun m hm => hg m (List.mem_of_mem_take hm))
        rw [List.length_take] at hlen
        have hfs : f.size = (fileL (l.take k)).length := by rw [hF.out]; exact List.size_toArray
        generalize l[k] = x at *
        obtain ⟨xa, xb⟩ := x
        simp only at hx0 hx1 hgx
        obtain ⟨ha, hha⟩ : ∃ ha, hexB xa = ha := ⟨_, rfl⟩
        obtain ⟨hb, hhb⟩ : ∃ hb, hexB xb = hb := ⟨_, rfl⟩
        have hpa := fun n => rput_any xa (wr.drewN n) (by omega)
        have hpb := fun n => rput_any xb (wr.drewN n) (by omega)
        have sa := hexB_size xa
        have sb := hexB_size xb
        rw [hha] at hpa sa
        rw [hhb] at hpb sb
        have hq1 : ∀ n, Calls Try.prog 88 #[.string xa] (wr.drewN n) fun e w' => e = .returned (.string ha) ∧ ∃ m, w' = wr.drewN m := fun n => (hpa n).mono fun e w' ⟨h1, m, h2⟩ => ⟨h1, _, h2.trans (World.drewN_drewN _ _ _)⟩
        have hq2 : ∀ n, Calls Try.prog 88 #[.string xb] (wr.drewN n) fun e w' => e = .returned (.string hb) ∧ ∃ m, w' = wr.drewN m := fun n => (hpb n).mono fun e w' ⟨h1, m, h2⟩ => ⟨h1, _, h2.trans (World.drewN_drewN _ _ _)⟩
        have HQ1 := Lib.hid hq1
        have HQ2 := Lib.hid hq2
        have HHA := Lib.hid hha
        have HHB := Lib.hid hhb
        have HST := Lib.hid hst
        have g1 : (9223372036854775807 < f.size + ha.size) = False := eq_false (by omega)
        have g2 : (9223372036854775807 < f.size + ha.size + 1) = False := eq_false (by omega)
        have g3 : (9223372036854775807 < f.size + ha.size + 1 + hb.size) = False := eq_false (by omega)
        have g4 : (9223372036854775807 < f.size + ha.size + 1 + hb.size + 1) = False := eq_false (by omega)
        have k0 : (0 : Int) ≤ (k : Int) := by omega
        have k1 : (k : Int) < (l.length : Int) := by omega
        clear hpa hpb hq1 hq2 hha hhb hst hx hfs sa sb
        go_wp2_with fail
        go_quiet (first | (go_at_call 88; with_reducible exact HQ1.out _) | (go_at_call 88; with_reducible exact HQ2.out _))
        have hF2 : Hid (f ++ ha ++ ⟨#[32]⟩ ++ hb ++ ⟨#[10]⟩ = ⟨(fileL (l.take (k + 1))).toArray⟩) := by
          show f ++ ha ++ ⟨#[32]⟩ ++ hb ++ ⟨#[10]⟩ = ⟨(fileL (l.take (k + 1))).toArray⟩
          rw [HST.out, hF.out, ← HHA.out, ← HHB.out]
          apply ByteArray.ext
          simp [ByteArray.data_append, lineL, hexB]
        have hD2 : Hid (∃ n, wr.drewN nq = w.drewN n) := by obtain ⟨n, e⟩ := hD.out; exact ⟨_, by rw [e]; exact World.drewN_drewN _ _ _⟩
        clear g1 g2 g3 g4 HST HHA HHB
        go_wp2_with fail
        go_roundw
        case rel => exact ⟨k + 1, _, by omega, by go_num, rfl, hF2, hD2⟩
        case measure => simp [intOf]; omega
      · obtain rfl : k = l.length := by omega
        have hFF := hF.out
        rw [List.take_length] at hFF
        have HFF := Lib.hid hFF
        clear hFF hF
        go_wp2_with fail
        go_ret2
        exact ⟨by rw [HFC.out, HE.out, ← HFF.out]; rfl, hD.out⟩
  · have HFB := Lib.hid (hfb he)
    clear hfb hfc
    go_wp2_with fail
    go_ret2
    exact ⟨by rw [HFB.out, HE.out]; rfl, _, H1.out⟩
end Go.Proofs.Ytbldnjpdeldabaa.RefWrite
