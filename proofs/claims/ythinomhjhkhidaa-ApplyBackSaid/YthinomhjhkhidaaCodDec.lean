/- Layer 20: Decode, Size, and a nil coder. Layer 20: the document's example. -/
import Derived.Test.YthinomhjhkhidaaCodNext
import Derived.Test.YthinomhjhkhidaaBld
import Derived.Test.YthinomhjhkhidaaInts
import Derived.Test.YthinomhjhkhidaaSrcM
namespace Go.Proofs.Ythinomhjhkhidaa.Cod
open Go.RowKit Go.Maps Go.Proofs.YthinomhjhkhidaaW.PrintWords Go.Proofs.YthinomhjhkhidaaW.PrintLast Go.Proofs.YthinomhjhkhidaaW.PrintMore Base Foot SymPure CodPure PMap Bld Src
set_option linter.unusedVariables false
set_option linter.unusedSimpArgs false
attribute [local go_sem ↓] Go.wp_at_zero Go.wp_at_succ

set_option maxHeartbeats 1000000 in
set_option maxRecDepth 100000 in
theorem str_nil {w : World} {b : Nat} {p : Value} (hbk : w.heap[b]? = some (.cells #[p, .slice none 0 0] 98 (0, 0))) :
    Calls Try.prog 57 #[.pointer (some ⟨b, 0, none⟩)] w fun e w' => e = .returned (.string .empty) ∧ Below w.heap.size w w' := by
  have c1 : w.drew.cell? ⟨b, 1, none⟩ = some (.slice none 0 0) := by
    have := cell_at hbk 1
    exact this
  have hSD : (Builtin.unsafeSliceData_ #[76] 121 #[.slice none 0 0]).run Try.prog w.drew = .ok (.pointer none) w.drew := Lib.run_unsafeSliceData_nil _ _ _ _ _
  have hUS : (Builtin.unsafeString_ #[121, 3] 9 #[.pointer none, .int .i64 0]).run Try.prog w.drew = .ok (.string .empty) w.drew := Lib.run_unsafeString_none _ _ _ _ _
  go_enter Try.func57, Try.ntmps57
  go_wp2
  go_region
  all_goals (go_wp2; go_ret; exact ⟨rfl, Below.drew (Below.refl _ w)⟩)

theorem decode_nil (v : Value) (w : World) : Calls Try.prog 31 #[.pointer none, v] w fun e w' => e = .returned (.tuple #[.string ⟨#[]⟩, .bool false]) ∧ w = w' := by
  go_enter Try.func31, Try.ntmps31
  go_wp2
  go_ret2
  exact ⟨rfl, rfl⟩
theorem size_nil (w : World) : Calls Try.prog 39 #[.pointer none] w fun e w' => e = .returned (.int .i64 0) ∧ w = w' := by
  go_enter Try.func39, Try.ntmps39
  go_wp2
  go_ret
  exact ⟨rfl, rfl⟩
theorem count_nil (v : Value) (w : World) : Calls Try.prog 33 #[.pointer none, v] w fun e w' => e = .returned (.tuple #[.int .i64 0, .bool false]) ∧ w = w' := by
  go_enter Try.func33, Try.ntmps33
  go_wp2
  go_ret2
  exact ⟨rfl, rfl⟩
set_option maxHeartbeats 1000000 in
theorem split_nil (s : ByteArray) (w : World) : Calls Try.prog 30 #[.pointer none, .string s] w fun e w' => e = .returned (.slice none 0 0) ∧ w = w' := by
  go_enter Try.func30, Try.ntmps30
  go_wp2_with fail
  refine (encode_nil s w).mono ?_
  rintro e w2 ⟨rfl, rfl⟩
  go_wp2_with fail
  go_loopw [5, 14] (fun v5 v14 wr => v5 = .slice none 0 0 ∧ v14 = .int .i64 0 ∧ w = wr) (fun _ _ _ => 0)
  case atStart => exact ⟨rfl, rfl, rfl⟩
  case round =>
    obtain ⟨rfl, rfl, rfl⟩ := hrel
    go_wp2_with fail
    go_ret
    exact ⟨rfl, rfl⟩

theorem cat_snoc (T : List J) (l : List Int) (x : Int) : catL T (l ++ [x]) = catL T l ++ (textS T x).data.toList := by unfold catL; simp
/-- what Decode tells -/
def decV (T : List J) (ids : List Int) : Value := if ∀ x ∈ ids, there T x = true then .tuple #[.string ⟨(catL T ids).toArray⟩, .bool true] else .tuple #[.string ⟨#[]⟩, .bool false]
set_option maxHeartbeats 6400000 in
set_option maxRecDepth 100000 in
theorem decode_any {B : Nat} {w : World} {b tb mb : Nat} {lv mv : Value} {T : List J} {M : List (PK × Int)} (h : CT B w b tb mb lv mv T M) (A : Option Addr) (cp : Nat) (ids : List Int) (hr : Src w 1 A ids.length (ids.map (Value.int .i64))) (hi64 : ∀ x ∈ ids, In64 x) (hl : ids.length ≤ 10000) :
    Calls Try.prog 31 #[.pointer (some ⟨b, 0, none⟩), .slice A ids.length cp] w fun e w' => e = .returned (decV T ids) ∧ Below w.heap.size w w' := by
  have H := Lib.hid h
  have HI := Lib.hid hi64
  have HP := Lib.hid (Made.pos h.st.good)
  have HSZ := Lib.hid h.st.size
  have hb := new_bld w
  have b0 := (Below.refl w.heap.size w).alloc (Nat.le_refl _) (.cells #[.pointer none, .slice none 0 0] 98)
  have HB := Lib.hid hb
  have HB0 := Lib.hid b0
  clear h hb b0 hi64
  go_enter Try.func31, Try.ntmps31
  go_wp2_with fail
  go_loopw [15] (fun v15 wr => ∃ (k : Nat) (v : Value), k ≤ ids.length ∧ v15 = .int .i64 (k : Int) ∧ Hid (Bld w.heap.size wr w.heap.size v (Lib.byteCells (catL T (ids.take k)))) ∧ Hid (catL T (ids.take k) = [] → v = .slice none 0 0) ∧ Hid ((catL T (ids.take k)).length ≤ 65536 * k) ∧ Hid (∀ x ∈ ids.take k, there T x = true) ∧ Hid (Below w.heap.size w wr)) (fun i _ => ids.length - (intOf i).toNat)
  case atStart => exact ⟨0, _, by omega, rfl, HB, Lib.hid fun _ => rfl, Lib.hid (by simp [catL]), Lib.hid (by simp), HB0⟩
  case round =>
    clear HB HB0
    obtain ⟨k, v, hk, rfl, HB, HE, HL, HA, HW⟩ := hrel
    by_cases hlt : k < ids.length
    · have hx : (ids.map (Value.int .i64))[k]? = some (.int .i64 ids[k]) := by simp [hlt]
      obtain ⟨ad, e, p0⟩ := hr.2 (by omega)
      cases e
      replace p0 := p0 k _ hx
      replace p0 := (HW.out.cell (World.block_lt_of_cell? w _ p0)).trans p0
      have htk : ids.take (k + 1) = ids.take k ++ [ids[k]] := List.take_succ_eq_append_getElem hlt
      have hxi := HI.out _ (List.getElem_mem hlt)
      have hmx := List.getElem_mem hlt
      generalize ids[k] = x at *
      have HTK := Lib.hid htk
      have HMX := Lib.hid hmx
      have hc := H.out.below HW.out
      have k0 := cell_at hc.blk 0
      simp only [List.getElem?_toArray, List.getElem?_cons_zero, List.getElem?_cons_succ] at k0
      have HC := Lib.hid hc
      clear hx htk hmx hc
      go_wp2_with fail
      refine (Sym.text_any HC.out.st x hxi).mono ?_
      rintro e w2 ⟨rfl, b2⟩
      have HB2 := Lib.hid (HB.out.below b2)
      have HW2 := Lib.hid (HW.out.trans (b2.mono HW.out.size))
      cases ht : there T x with
      | false =>
        have HN := Lib.hid (show decV T ids = .tuple #[.string ⟨#[]⟩, .bool false] by
          unfold decV
          rw [if_neg]
          intro hall
          have := hall x HMX.out
          rw [ht] at this
          cases this)
        go_wp2_with fail
        go_ret2
        exact ⟨by rw [HN.out]; rfl, HW2.out⟩
      | true =>
        have hts := HP.out x ht
        have hle := Sym2.join_text HSZ.out x
        have HT := Lib.hid ht
        obtain ⟨s, hs⟩ : ∃ s, textS T x = s := ⟨_, rfl⟩
        rw [hs] at hts hle ⊢
        have HS := Lib.hid (show catL T (ids.take (k + 1)) = catL T (ids.take k) ++ s.data.toList by rw [HTK.out, cat_snoc, hs])
        clear ht hs b2
        go_wp2_with fail
        refine (wstr_any HB2.out s (by rw [Lib.byteCells_length]; have := HL.out; omega)).mono ?_
        rintro e w3 ⟨rfl, ⟨v', hB3⟩, b3, _⟩
        have HB3 := Lib.hid hB3
        have HW3 := Lib.hid (HW2.out.trans b3)
        clear hB3 b3
        have hsl : s.data.toList.length = s.size := by rw [Array.length_toList]; rfl
        go_wp2_with fail
        go_roundw
        case rel =>
          refine ⟨k + 1, v', by omega, by go_num, Lib.hid ?_, Lib.hid ?_, Lib.hid ?_, Lib.hid ?_, HW3⟩
          · rw [HS.out, Lib.byteCells_append]
            exact HB3.out
          · intro h0
            rw [HS.out] at h0
            have := congrArg List.length h0
            rw [List.length_append, hsl, List.length_nil] at this
            omega
          · rw [HS.out, List.length_append, hsl]
            have := HL.out
            omega
          · intro y hy
            rw [HTK.out] at hy
            rcases List.mem_append.1 hy with hy | hy
            · exact HA.out y hy
            · rw [List.mem_singleton] at hy; subst hy; exact HT.out
        case measure => simp [intOf]; omega
    · obtain rfl : k = ids.length := by omega
      have hd : decV T ids = .tuple #[.string ⟨(catL T ids).toArray⟩, .bool true] := by
        unfold decV
        rw [if_pos]
        have := HA.out
        rwa [List.take_length] at this
      have hB := HB.out
      have hE := HE.out
      have hL := HL.out
      rw [List.take_length] at hB hE hL
      have HD := Lib.hid hd
      by_cases h0 : catL T ids = []
      · obtain ⟨p, hp, hbk⟩ := hB.blk
        rw [hE h0] at hbk
        have HBK := Lib.hid hbk
        clear hB hE hbk hd
        go_wp2_with fail
        refine (str_nil HBK.out).mono ?_
        rintro e w3 ⟨rfl, b3⟩
        go_wp2_with fail
        go_ret2
        exact ⟨by rw [HD.out, h0]; rfl, HW.out.trans (b3.mono HW.out.size)⟩
      · have HBB := Lib.hid hB
        clear hB hE hd
        go_wp2_with fail
        refine (str_any HBB.out h0 (by omega)).mono ?_
        rintro e w3 ⟨rfl, b3⟩
        go_wp2_with fail
        go_ret2
        exact ⟨by rw [HD.out]; rfl, HW.out.trans b3⟩
end Go.Proofs.Ythinomhjhkhidaa.Cod

namespace Go.Proofs.Ythinomhjhkhidaa.Cod
open Go.RowKit Go.ChangeShapes Go.WideShapes Go.Deep Go.Proofs.YthinomhjhkhidaaW.PrintWords Go.Proofs.YthinomhjhkhidaaW.PrintLast Go.Proofs.YthinomhjhkhidaaW.PrintMore Base Foot SymPure Sym Kinds FilePure FileLaw CodPure PMap Src
set_option linter.unusedVariables false
set_option linter.unusedSimpArgs false
attribute [local go_sem ↓] Go.wp_at_zero Go.wp_at_succ
def ex2 : List Mg := [(⟨#[97]⟩, ⟨#[98]⟩), (⟨#[97, 98]⟩, ⟨#[97, 98]⟩)]
theorem ex2_chk : (chk [] ex2).2 = 0 := by decide +kernel
def exT : List J := [⟨97, 98, ⟨#[97, 98]⟩⟩, ⟨256, 256, ⟨#[97, 98, 97, 98]⟩⟩]
theorem ex_rel {T : List J} (h : Rel T ex2) : T = exT := by
  have hl := h.len
  match T, hl with
  | [x, y], _ =>
    have ht := h.texts
    obtain ⟨h1, h2⟩ : x.s = ⟨#[97, 98]⟩ ∧ y.s = ⟨#[97, 98, 97, 98]⟩ := by
      have e : ex2.map tx = [⟨#[97, 98]⟩, ⟨#[97, 98, 97, 98]⟩] := by decide +kernel
      rw [e] at ht
      simpa using ht
    have hx := h.made.at 0 x rfl
    have hy := h.made.at 1 y rfl
    obtain ⟨a0, a1, b0, b1, hs⟩ := hx
    obtain ⟨c0, c1, d0, d1, hq⟩ := hy
    have ha : x.a = 97 ∧ x.b = 98 := by
      rw [h1, text_low a0 (by omega), text_low b0 (by omega)] at hs
      have := congrArg (fun s => s.data.toList) hs
      simp [byteS] at this
      have e1 := congrArg UInt8.toNat this.1
      have e2 := congrArg UInt8.toNat this.2
      simp at e1 e2
      omega
    have hz : ∀ id : Int, 0 ≤ id → id < 256 + ((1 : Nat) : Int) → (textS [x, y] id).size = 1 ∨ (id = 256 ∧ (textS [x, y] id).size = 2) := fun id h0 h1' => by
      by_cases hi : id < 256
      · rw [text_low h0 hi]; exact .inl (byteS_size _)
      · have : id = 256 := by omega
        subst this
        rw [text_high (x := x) (by omega) rfl, h1]
        exact .inr ⟨rfl, rfl⟩
    have hb : y.a = 256 ∧ y.b = 256 := by
      have e := congrArg ByteArray.size hq
      rw [h2, ByteArray.size_append] at e
      have e4 : (⟨#[97, 98, 97, 98]⟩ : ByteArray).size = 4 := rfl
      have := hz y.a c0 c1
      have := hz y.b d0 d1
      omega
    obtain ⟨xa, xb, xs⟩ := x
    obtain ⟨ya, yb, ys⟩ := y
    simp only at ha hb h1 h2
    obtain ⟨rfl, rfl⟩ := ha
    obtain ⟨rfl, rfl⟩ := hb
    subst h1; subst h2
    rfl
theorem ex_enc1 : encK exT (bytesI ⟨#[97, 98, 97, 98]⟩) exT.length = [257] := by decide +kernel
theorem ex_enc2 : encK exT (bytesI ⟨#[97, 98, 97]⟩) exT.length = [256, 97] := by decide +kernel
theorem slcN {w : World} {B : Nat} {v : Value} {n : Nat} {xs : List Value} (h : w.ownsRow B 3 1 v n xs) : ∃ A c, v = .slice A n c := Bld.own_slice h
theorem flat_ints (l : List Int) : l.flatMap SeqM.encI = l.map (Value.int .i64) := by
  induction l with
  | nil => rfl
  | cons a r ih => rw [List.flatMap_cons, ih]; rfl
abbrev exC : Array Value := #[.string ⟨#[97]⟩, .string ⟨#[98]⟩, .string ⟨#[97, 98]⟩, .string ⟨#[97, 98]⟩]
set_option maxHeartbeats 1600000 in
set_option maxRecDepth 100000 in
theorem awake_any (w : World) : Calls Try.prog 24 #[] w fun e w' => e = .returned (.bool true) ∧ Below w.heap.size w w' := by
  have b1 : Below w.heap.size w (w.alloc (.cells exC 70)) := (Below.refl _ _).alloc (Nat.le_refl _) _
  have hsrc : Src (w.alloc (.cells exC 70)) 2 (some ⟨w.heap.size, 0, none⟩) ex2.length (ex2.flatMap encSS) := ⟨rfl, fun _ => ⟨_, rfl, news_alloc rfl⟩⟩
  have hC := C_of_src hsrc (by decide)
  go_enter Try.func24, Try.ntmps24
  go_wp2_with fail
  refine (Cod.new_any (some ⟨w.heap.size, 0, none⟩) 2 ex2 _ hC (by decide +kernel) (by decide)).mono ?_
  rintro e w1 ⟨v, rfl, b2, _, h2⟩
  rw [ex2_chk]
  obtain ⟨b, tb, mb, lv, mv, T, M, rfl, hV, hR⟩ := h2 ex2_chk
  obtain rfl := ex_rel hR
  have B2 := Lib.hid (b1.trans (b2.mono b1.size))
  have hL := encode_any hV ⟨#[97, 98, 97, 98]⟩ (by decide)
  rw [ex_enc1, flat_ints] at hL
  clear h2 hC hsrc b1 b2
  go_wp2_with fail
  refine hL.mono ?_
  rintro e w2 ⟨v2, rfl, hrow, b3⟩
  obtain ⟨A3, c3, rfl⟩ := slcN hrow
  have hs3 := (Src.of_own hrow).alloc (.cells #[.int .i64 257] 3)
  have hs4 : Src (w2.alloc (.cells #[.int .i64 257] 3)) 1 (some ⟨w2.heap.size, 0, none⟩) 1 ([257].map (Value.int .i64)) := ⟨rfl, fun _ => ⟨_, rfl, news_alloc rfl⟩⟩
  have hT := Ints.ints_yes A3 (some ⟨w2.heap.size, 0, none⟩) c3 1 [257] _ hs3 hs4 (by decide)
  have b4 : Below w1.heap.size w1 (w2.alloc (.cells #[.int .i64 257] 3)) := b3.alloc b3.size _
  have HV4 := Lib.hid (hV.below b4)
  clear hL hs3 hs4 hV b3 hrow
  go_wp2_with fail
  refine hT.mono ?_
  rintro e w3 ⟨rfl, b5⟩
  have B6 := Lib.hid (B2.out.trans ((b4.trans (b5.mono b4.size)).mono B2.out.size))
  have hL := encode_any (HV4.out.below b5) ⟨#[97, 98, 97]⟩ (by decide)
  rw [ex_enc2, flat_ints] at hL
  clear hT b4 b5
  go_wp2_with fail
  refine hL.mono ?_
  rintro e w4 ⟨v4, rfl, hrow, b7⟩
  obtain ⟨A4, c4, rfl⟩ := slcN hrow
  have hs3 := (Src.of_own hrow).alloc (.cells #[.int .i64 256, .int .i64 97] 3)
  have hs4 : Src (w4.alloc (.cells #[.int .i64 256, .int .i64 97] 3)) 1 (some ⟨w4.heap.size, 0, none⟩) 2 ([256, 97].map (Value.int .i64)) := ⟨rfl, fun _ => ⟨_, rfl, news_alloc rfl⟩⟩
  have hT := Ints.ints_yes A4 (some ⟨w4.heap.size, 0, none⟩) c4 2 [256, 97] _ hs3 hs4 (by decide)
  have B8 := Lib.hid (B6.out.trans ((b7.alloc b7.size (.cells #[.int .i64 256, .int .i64 97] 3)).mono B6.out.size))
  clear hL hs3 hs4 hrow b7
  go_wp2_with fail
  refine hT.mono ?_
  rintro e w5 ⟨rfl, b9⟩
  go_wp2_with fail
  go_ret
  exact ⟨rfl, B8.out.trans (b9.mono B8.out.size)⟩
end Go.Proofs.Ythinomhjhkhidaa.Cod
