/- ApplyBack: a word is read from its symbols again; a nil coder has nothing. No condition. -/
import Derived.Test.YthinomhjhkhidaaCodDec
import Derived.Test.YthinomhjhkhidaaKindsMerge
import Derived.Test.YthinomhjhkhidaaRefGreat
namespace Go.Proofs.Ythinomhjhkhidaa.ApplyBack
open Go.RowKit Go.Maps Go.ChangeShapes Go.WideShapes Go.Deep Go.Proofs.YthinomhjhkhidaaW.PrintWords Go.Proofs.YthinomhjhkhidaaW.PrintLast Go.Proofs.YthinomhjhkhidaaW.PrintMore Base Foot SymPure Kinds FilePure FileJoin CodPure PMap Src FileLaw RefFile Cod
set_option linter.unusedVariables false
set_option linter.unusedSimpArgs false
attribute [local go_sem ↓] Go.wp_at_zero Go.wp_at_succ

theorem great_no {l : List Mg} {most : Nat} (h : greatB l most = false) : l.length ≤ most ∧ ∀ m ∈ l, m.1.size ≤ 300 ∧ m.2.size ≤ 300 := by
  unfold greatB at h
  rw [Bool.or_eq_false_iff] at h
  refine ⟨by have := of_decide_eq_false h.2; omega, fun m hm => ?_⟩
  have h1 := List.any_eq_false.1 h.1 m hm
  simp [longM] at h1
  omega
theorem bytes_len (s : ByteArray) : (bytesI s).length = s.size := by unfold bytesI; rw [List.length_map, Array.length_toList]; rfl
theorem dec_enc {T : List J} (hM : Made T) (s : ByteArray) : decV T (encK T (bytesI s) T.length) = .tuple #[.string s, .bool true] ∧ (∀ x ∈ encK T (bytesI s) T.length, there T x = true) ∧ (encK T (bytesI s) T.length).length ≤ s.size := by
  obtain ⟨h1, h2, h3⟩ := encK_law hM (s := bytesI s) (bytes_there T _) T.length
  rw [bytes_len] at h3
  refine ⟨?_, h2, h3⟩
  unfold decV
  rw [if_pos h2, h1]
  unfold bytesI
  rw [cat_bytes]
set_option maxHeartbeats 6400000 in
set_option maxRecDepth 100000 in
theorem law_any (A : Option Addr) (cp : Nat) (l : List Mg) (s : ByteArray) (w : World) (hr : Kd.C kSS w A l.length l) (hl : l.length ≤ maxLen) (hw : s.size ≤ maxLen) :
    Calls Try.prog 7 #[.slice A l.length cp, .string s] w fun e w' => e = .returned (.bool true) ∧ Below w.heap.size w w' := by
  unfold maxLen at hw
  go_enter Try.func7, Try.ntmps7
  go_wp2_with fail
  refine (Cod.awake_any _).mono ?_
  rintro e w1 ⟨rfl, b1⟩
  have hr1 := Kd.C_below hr b1
  have hgr := great_any A cp l 60 w1 hr1 hl (by omega)
  cases hgb : greatB l 60 with
  | true =>
    rw [hgb] at hgr
    go_wp2_with fail
    refine hgr.mono ?_
    rintro e w2 ⟨rfl, rfl⟩
    go_wp2_with fail
    go_ret
    exact ⟨rfl, b1⟩
  | false =>
    rw [hgb] at hgr
    by_cases hwl : 200 < s.size
    · have hwl2 : (200 : Int) < (s.size : Int) := by omega
      go_wp2_with fail
      refine hgr.mono ?_
      rintro e w2 ⟨rfl, rfl⟩
      go_wp2_with fail
      go_ret
      exact ⟨rfl, b1⟩
    · have hwl2 : ¬ (200 : Int) < (s.size : Int) := by omega
      obtain ⟨h60, h300⟩ := great_no hgb
      go_wp2_with fail
      refine hgr.mono ?_
      rintro e w2 ⟨rfl, rfl⟩
      clear hgr
      go_wp2_with fail
      refine (decode_nil _ _).mono ?_
      rintro e w2 ⟨rfl, rfl⟩
      go_wp2_with fail
      refine (count_nil _ _).mono ?_
      rintro e w2 ⟨rfl, rfl⟩
      go_wp2_with fail
      refine (split_nil _ _).mono ?_
      rintro e w2 ⟨rfl, rfl⟩
      go_wp2_with fail
      refine (encode_nil _ _).mono ?_
      rintro e w2 ⟨rfl, rfl⟩
      go_wp2_with fail
      refine (size_nil _).mono ?_
      rintro e w2 ⟨rfl, rfl⟩
      have hnew := Cod.new_any A cp l _ hr1 (fun m hm => by have := h300 m hm; unfold maxLen; omega) (by omega)
      obtain ⟨ce, hce⟩ : ∃ ce, (chk [] l).2 = ce := ⟨_, rfl⟩
      rw [hce] at hnew
      clear h300 hgb hce
      go_wp2_with fail
      refine hnew.mono ?_
      rintro e w3 ⟨v, rfl, b3, hno, hyes⟩
      have B3 := Lib.hid (b1.trans (b3.mono b1.size))
      by_cases h0 : ce = 0
      · obtain ⟨b, tb, mb, lv, mv, T, M, rfl, hV, hR⟩ := hyes h0
        subst h0
        obtain ⟨hd, hth, hlen⟩ := dec_enc hV.st.good s
        have hE := encode_any hV s (by omega)
        obtain ⟨L, hL⟩ : ∃ L, encK T (bytesI s) T.length = L := ⟨_, rfl⟩
        rw [hL] at hd hth hlen hE
        rw [flat_ints] at hE
        have hle : (L.length : Int) ≤ (s.size : Int) := by omega
        have hTs := hV.st.small
        have HI := Lib.hid (show ∀ x ∈ L, In64 x from fun x hx => by
          have := there_iff.1 (hth x hx)
          unfold In64
          omega)
        have HV := Lib.hid hV
        have HD := Lib.hid hd
        clear hno hyes b1 b3 hr1 hnew hR hV hd hth hL
        go_wp2_with fail
        refine hE.mono ?_
        rintro e w4 ⟨v4, rfl, hrow, b4⟩
        obtain ⟨A4, c4, rfl⟩ := slcN hrow
        have hdec := decode_any (HV.out.below b4) A4 c4 L (Src.of_own hrow) HI.out (by omega)
        rw [HD.out] at hdec
        have B4 := Lib.hid (B3.out.trans (b4.mono B3.out.size))
        clear hE hrow b4
        go_wp2_with fail
        refine hdec.mono ?_
        rintro e w5 ⟨rfl, b5⟩
        have B5 := Lib.hid (B4.out.trans (b5.mono B4.out.size))
        clear hdec b5
        go_wp2_with fail
        go_ret
        exact ⟨by simp, B5.out⟩
      · obtain rfl := hno h0
        go_wp2_with fail
        go_ret
        exact ⟨by simp [h0], B3.out⟩
theorem walk (W : World) (A : Option Addr) (cp : Nat) (l : List (ByteArray × ByteArray)) (hr : Kd.C kSS W A l.length l) (hc : l.length ≤ cp) (hg : ∀ x ∈ l, True) (hs : l.length * 32 ≤ reachBytes) (word : ByteArray) (hw : word.size ≤ 140737488351232) :
    Calls Try.prog 7 #[.slice A l.length cp, .string word] W fun e w' => e = .returned (.bool true) ∧ Below W.heap.size W w' :=
  law_any A cp l word W hr (by unfold reachBytes at hs; unfold maxLen; omega) (by unfold maxLen; omega)
end Go.Proofs.Ythinomhjhkhidaa.ApplyBack
