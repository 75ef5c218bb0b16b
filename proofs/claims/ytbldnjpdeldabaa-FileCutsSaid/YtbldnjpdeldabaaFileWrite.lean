/- Layer 18: merges written. -/
import Derived.Test.YtbldnjpdeldabaaFileJoin
import Derived.Test.YtbldnjpdeldabaaHexPut
namespace Go.Proofs.Ytbldnjpdeldabaa.FileWrite
open Go.RowKit Go.ChangeShapes Go.WideShapes Go.Deep Go.Proofs.YtbldnjpdeldabaaW.PrintWords Go.Proofs.YtbldnjpdeldabaaW.PrintLast Go.Proofs.YtbldnjpdeldabaaW.PrintMore Base Foot Kinds FilePure FileJoin Bld HexPut
set_option linter.unusedVariables false
set_option linter.unusedSimpArgs false
attribute [local go_sem ↓] Go.wp_at_zero Go.wp_at_succ

def headL : List UInt8 := [103, 108, 117, 101, 112, 111, 116, 32, 49, 10]
def lineL (m : Mg) : List UInt8 := hexL m.1.data.toList ++ [32] ++ hexL m.2.data.toList ++ [10]
def fileL (l : List Mg) : List UInt8 := headL ++ l.flatMap lineL
def fileB (l : List Mg) : ByteArray := if (chk [] l).2 = 0 then ⟨(fileL l).toArray⟩ else ⟨#[]⟩
theorem fileL_step {l : List Mg} {k : Nat} {m : Mg} (h : l[k]? = some m) : fileL (l.take (k + 1)) = fileL (l.take k) ++ lineL m := by
  obtain ⟨hk, e⟩ := List.getElem?_eq_some_iff.1 h
  unfold fileL
  rw [List.take_succ_eq_append_getElem hk, e, List.flatMap_append, List.append_assoc]
  simp
theorem lineL_len (m : Mg) : (lineL m).length = 2 * m.1.size + 2 * m.2.size + 2 := by
  have h1 : m.1.data.toList.length = m.1.size := by rw [Array.length_toList]; rfl
  have h2 : m.2.data.toList.length = m.2.size := by rw [Array.length_toList]; rfl
  simp only [lineL, List.length_append, hexL_len, h1, h2, List.length_cons, List.length_nil]
  omega
theorem fileL_len (l : List Mg) (h : ∀ m ∈ l, m.1.size ≤ 1000 ∧ m.2.size ≤ 1000) : (fileL l).length ≤ 10 + 4002 * l.length := by
  unfold fileL
  rw [List.length_append]
  have : (l.flatMap lineL).length ≤ 4002 * l.length := by
    induction l with
    | nil => simp
    | cons m l ih =>
      have h1 := h m (by simp)
      have h2 := ih (fun x hx => h x (List.mem_cons_of_mem _ hx))
      rw [List.flatMap_cons, List.length_append, lineL_len, List.length_cons]
      omega
  have : headL.length = 10 := rfl
  omega
theorem hexB_size (s : ByteArray) : (hexB s).size = 2 * s.size := by
  have : s.data.toList.length = s.size := by rw [Array.length_toList]; rfl
  unfold hexB
  show (hexL s.data.toList).toArray.size = _
  rw [List.size_toArray, hexL_len, this]
theorem str_byte (s : ByteArray) : Lib.strCells s = Lib.byteCells s.data.toList := rfl

set_option maxHeartbeats 3200000 in
set_option maxRecDepth 100000 in
theorem write_any (A : Option Addr) (cp : Nat) (l : List Mg) (w : World) (hr : Kd.C kSS w A l.length l) (hg : ∀ m ∈ l, m.1.size ≤ 1000 ∧ m.2.size ≤ 1000) (hl : l.length ≤ 1000) :
    Calls Try.prog 56 #[.slice A l.length cp] w fun e w' => e = .returned (.tuple #[.string (fileB l), .int .i64 (chk [] l).2]) ∧ Below w.heap.size w w' := by
  go_enter Try.func56, Try.ntmps56
  go_wp2_with fail
  refine (check_any A cp l w hr (fun m hm => by have := hg m hm; unfold maxLen; omega) (by omega)).mono ?_
  rintro e w1 ⟨rfl, b1⟩
  have hpos := chk_pos l [] (by simp)
  have hfb : (chk [] l).2 ≠ 0 → fileB l = ⟨#[]⟩ := fun h => if_neg h
  have hfc : (chk [] l).2 = 0 → fileB l = ⟨(fileL l).toArray⟩ := fun h => if_pos h
  generalize hE : (chk [] l).2 = er at *
  have HE := Lib.hid hE
  clear hE
  generalize (chk [] l).1 = pl at *
  by_cases he : er = 0
  · subst he
    have HPOS := Lib.hid (hpos rfl)
    have HFC := Lib.hid (hfc rfl)
    clear hpos hfb hfc
    have hn0 := (new_bld w1)
    have hz1 := b1.size
    have hbz := hz1
    have b2 := b1.alloc b1.size (.cells #[.pointer none, .slice none 0 0] 140)
    go_wp2_with fail
    refine (wstr_any hn0 _ (by decide)).mono ?_
    rintro e w2 ⟨rfl, ⟨v2, h2⟩, bb2, _⟩
    have b3 := b2.trans (bb2.mono hz1)
    have h2' : Bld w1.heap.size w2 w1.heap.size v2 (Lib.byteCells (fileL (l.take 0))) := by simpa [fileL, headL, Lib.byteCells, Lib.strCells] using h2
    clear h2 bb2 b2 hn0
    generalize w1.heap.size = b at *
    go_wp2_with fail
    go_loopw [20] (fun v20 wr => ∃ (k : Nat) (v : Value), k ≤ l.length ∧ v20 = .int .i64 (k : Int) ∧ Bld b wr b v (Lib.byteCells (fileL (l.take k))) ∧ Below w.heap.size w wr) (fun i _ => l.length - (intOf i).toNat)
    case atStart => exact ⟨0, v2, by omega, rfl, h2', b3⟩
    case round =>
      clear h2' b3
      obtain ⟨k, v, hk, rfl, hB, hW⟩ := hrel
      by_cases hlt : k < l.length
      · have hx := List.getElem?_eq_getElem hlt
        obtain ⟨ad, e1, hx0, hx1⟩ := at_SS hr hx
        cases e1
        replace hx0 := (hW.cell (World.block_lt_of_cell? w _ hx0)).trans hx0
        replace hx1 := (hW.cell (World.block_lt_of_cell? w _ hx1)).trans hx1
        have hpx := HPOS.out _ (List.getElem_mem hlt)
        have hgx := hg _ (List.getElem_mem hlt)
        have hst := fileL_step hx
        have hlen := fileL_len (l.take k) (fun m hm => hg m (List.mem_of_mem_take hm))
        rw [List.length_take] at hlen
        generalize l[k] = x at *
        obtain ⟨xa, xb⟩ := x
        simp only at hx0 hx1 hpx hgx
        have HST := Lib.hid hst
        have HX := Lib.hid hx
        clear hst hx
        have hbw := (hB.lt b (.inl rfl)).2
        have hal := (Below.refl wr.heap.size wr).alloc (Nat.le_refl _) (.cells #[.string xa, .string xb] 98)
        have hB2 := hB.below hal
        have hW2 := hW.trans (hal.mono hW.size)
        have kx := heap_alloc_new wr (.cells #[.string xa, .string xb] 98)
        have y0 := cell_at kx 0
        have y1 := cell_at kx 1
        simp only [List.getElem?_toArray, List.getElem?_cons_zero, List.getElem?_cons_succ] at y0 y1
        go_wp2_with fail
        have HB2 := Lib.hid hB2.drewB
        have HNX := Lib.hid (fun h => by have := (hB.lt _ h).2; omega : ¬ BF b v wr.heap.size)
        have HKX := Lib.hid kx
        obtain ⟨ha, hha⟩ : ∃ ha, hexB xa = ha := ⟨_, rfl⟩
        obtain ⟨hb, hhb⟩ : ∃ hb, hexB xb = hb := ⟨_, rfl⟩
        have hpa := fun (w' : World) => put_any xa w' hpx.1 (by omega)
        have hpb := fun (w' : World) => put_any xb w' hpx.2 (by omega)
        have sa := hexB_size xa
        have sb := hexB_size xb
        rw [hha] at hpa sa
        rw [hhb] at hpb sb
        have HPA := Lib.hid hpa
        have HPB := Lib.hid hpb
        have HHA := Lib.hid hha
        have HHB := Lib.hid hhb
        clear hpa hpb hha hhb
        have g1 : (9223372036854775807 < ha.size + 1) = False := eq_false (by omega)
        have g2 : (9223372036854775807 < ha.size + 1 + hb.size) = False := eq_false (by omega)
        have g3 : (9223372036854775807 < ha.size + 1 + hb.size + 1) = False := eq_false (by omega)
        have hln : (Lib.byteCells (fileL (l.take k))).length + (ha ++ ⟨#[32]⟩ ++ hb ++ ⟨#[10]⟩).size < 1000000000 := by
          simp only [Lib.byteCells_length, ByteArray.size_append, sa, sb]
          show (fileL (l.take k)).length + (2 * xa.size + 1 + 2 * xb.size + 1) < 1000000000
          omega
        have HLN := Lib.hid hln
        have HLE := Lib.hid hlen
        clear hln hlen sa sb
        have ls0 : wr.heap.size < (wr.alloc (.cells #[.string xa, .string xb] 98)).heap.size := block_lt kx
        go_region_held3 (fun w' => w'.cell? ⟨wr.heap.size, 0, none⟩ = some (.string xa) ∧ w'.cell? ⟨wr.heap.size, 1, none⟩ = some (.string xb))
          (first | exact ⟨y0, y1⟩ | exact ⟨d0, d1⟩ | exact ⟨d2, d3⟩ | exact ⟨d4, d5⟩)
          (first
            | (go_at_call 86; have d2 := d0; refine (HPB.out _).mono ?_; rintro e w4 ⟨rfl, c4⟩; replace d2 := (c4.cell (p := ⟨wr.heap.size, 0, none⟩) (Nat.lt_of_lt_of_le ls0 c3.size)).trans d0; have d3 := (c4.cell (p := ⟨wr.heap.size, 1, none⟩) (Nat.lt_of_lt_of_le ls0 c3.size)).trans d1)
            | (go_at_call 86; refine (HPA.out _).mono ?_; rintro e w3 ⟨rfl, c3⟩; have d0 := (c3.cell (p := ⟨wr.heap.size, 0, none⟩) ls0).trans y0; have d1 := (c3.cell (p := ⟨wr.heap.size, 1, none⟩) ls0).trans y1)
            | (go_at_call 85; refine (wstr_any ((HB2.out.below c3).below c4) _ HLN.out).mono ?_; rintro e w5 ⟨rfl, ⟨v5, h5⟩, b5, f5⟩; have kx5 := (f5 _ (Nat.lt_of_lt_of_le ls0 (Nat.le_trans c3.size c4.size)) HNX.out).trans ((c4.block _ (Nat.lt_of_lt_of_le ls0 c3.size)).trans ((c3.block _ ls0).trans HKX.out)); have d4 := cell_at kx5 0; have d5 := cell_at kx5 1; simp only [List.getElem?_toArray, List.getElem?_cons_zero, List.getElem?_cons_succ] at d4 d5))
        have hW5 : Below w.heap.size w w5 := hW2.drew.trans (((c3.trans (c4.mono c3.size)).mono hW2.size).trans (b5.mono (by omega)))
        have h5' : Bld b w5 b v5 (Lib.byteCells (fileL (l.take (k + 1)))) := by
          rw [HST.out]
          have e1 : Lib.byteCells (fileL (l.take k)) ++ Lib.strCells (ha ++ ⟨#[32]⟩ ++ hb ++ ⟨#[10]⟩) = Lib.byteCells (fileL (l.take k) ++ lineL (xa, xb)) := by
            rw [← HHA.out, ← HHB.out]
            unfold Lib.byteCells Lib.strCells lineL hexB
            rw [List.map_append]
            congr 1
          rw [← e1]; exact h5
        clear hB hW hB2 hW2 kx y0 y1 HPA HPB HB2 c3 c4 d0 d1 d2 d3 d4 d5 kx5 f5 HNX HKX h5 b5 HST HX g1 g2 g3
        go_wp2_with fail
        go_roundw
        case rel => exact ⟨k + 1, v5, by omega, by go_num, h5', hW5⟩
        case measure => simp [intOf]; omega
      · obtain rfl : k = l.length := by omega
        rw [List.take_length] at hB
        have hne : fileL l ≠ [] := by unfold fileL headL; simp
        have hlen := fileL_len l hg
        go_wp2_with fail
        refine (str_any hB hne (by omega)).mono ?_
        rintro e w3 ⟨rfl, b3⟩
        go_wp2_with fail
        go_ret2
        exact ⟨by rw [HFC.out, HE.out]; rfl, hW.trans (b3.mono hbz)⟩
  · have HFB := Lib.hid (hfb he)
    clear hpos hfb hfc
    go_wp2_with fail
    go_ret2
    exact ⟨by rw [HFB.out, HE.out]; rfl, b1⟩
end Go.Proofs.Ytbldnjpdeldabaa.FileWrite
