/- Layer 20: the next merge of a word. Layer 20: Encode. -/
import Derived.Test.YthinomhjhkhidaaCod
import Derived.Test.YthinomhjhkhidaaSeqPairs
import Derived.Test.YthinomhjhkhidaaBld
import Derived.RegionTactic
namespace Go.Proofs.Ythinomhjhkhidaa.Cod
open Go.RowKit Go.Maps Go.Proofs.YthinomhjhkhidaaW.PrintWords Go.Proofs.YthinomhjhkhidaaW.PrintLast Go.Proofs.YthinomhjhkhidaaW.PrintMore Base Foot SymPure CodPure PMap SeqPure SeqM
set_option linter.unusedVariables false
set_option linter.unusedSimpArgs false
attribute [local go_sem ↓] Go.wp_at_zero Go.wp_at_succ

theorem adj_mem : ∀ (l : List Int) (q : PK), q ∈ adj l → q.1 ∈ l ∧ q.2 ∈ l
  | [], q, h => by simp [adj] at h
  | [a], q, h => by simp [adj] at h
  | a :: b :: r, q, h => by
    rw [show adj (a :: b :: r) = (a, b) :: adj (b :: r) from rfl, List.mem_cons] at h
    rcases h with rfl | h
    · simp
    · have := adj_mem (b :: r) q h
      exact ⟨List.mem_cons_of_mem _ this.1, List.mem_cons_of_mem _ this.2⟩
theorem pairs_mem {X : List Knot} {l : List (PK × Int)} (hr : Rise l) (hz : NZ l) (h : ∀ q, lv l q = (cnt (syms X) q : Int)) (q : PK) : q ∈ l.map (·.1) ↔ q ∈ adj (syms X) := by
  have hc : cnt (syms X) q = (adj (syms X)).count q := rfl
  constructor
  · intro hq
    obtain ⟨x, hx, rfl⟩ := List.mem_map.1 hq
    have h1 := lv_mem hr.nd hx
    have h2 := hz x hx
    have h3 := h x.1
    have : 0 < (adj (syms X)).count x.1 := by omega
    exact List.count_pos_iff.1 this
  · intro hq
    have h1 : 0 < (adj (syms X)).count q := List.count_pos_iff.2 hq
    have h2 := h q
    obtain ⟨x, hx, e⟩ := lv_ne (m := l) (p := q) (by omega)
    exact List.mem_map.2 ⟨x, hx, e⟩
theorem look_ok2 {w : World} {mb : Nat} {T : List J} {m : List (PK × Int)} (h : PM w mb m) (hk : Mk T m) {p : PK} (hp : P64 p) : (Instr.lookup 88 (.map (some mb)) (.agg #[.int .i64 p.1, .int .i64 p.2]) true).run Try.prog w = .ok (.tuple #[.int .i64 ((by_ T p).getD 0), .bool (by_ T p).isSome]) w := by
  obtain ⟨D, h1, h2⟩ := h
  obtain ⟨v, ps, h3, h4⟩ := h1.look_ok kyd Try.underlying88 (zero_i w) (plainElem_int Try.underlying3 (by decide)) (key_of hp)
  rw [h2.at_ p hp] at h4
  obtain ⟨c, rfl, hc, _⟩ := plainElem_int_inv Try.underlying3 h4
  have e0 := h3
  rw [h2.has_ p hp] at e0
  have e : c = (PMap.look m p).getD 0 := by
    have := congrArg Prod.fst hc
    simpa using this.symm
  rw [← hk p, ← e]
  exact e0
/-- what next tells -/
def NextV (T : List J) (b : Int) (X : List Knot) (v : Value) : Prop := ∃ (p : PK) (id : Int) (D : List PK), v = .tuple #[.agg #[.int .i64 p.1, .int .i64 p.2], .int .i64 id, .bool (decide (id ≠ 0))] ∧ NB T b D p id ∧ ∀ q, q ∈ D ↔ q ∈ adj (syms X)
abbrev tPr : TypeId := 94
structure NS (w wr : World) (T : List J) (bh : Int) (l : List (PK × Int)) (v : Value) (i : Nat) (p : PK) (id : Int) : Prop where
  c0 : wr.heap[w.heap.size]? = some (.cells #[.int .i64 0, .int .i64 0] tPr (0, 0))
  c1 : wr.heap[w.heap.size + 1]? = some (.cells #[.int .i64 p.1, .int .i64 p.2] tPr (0, 0))
  nb : NB T bh ((l.take i).map (·.1)) p id
  row : wr.ownsRow (w.heap.size + 2) tCh 3 v l.length (l.flatMap encG)
  bl : Below w.heap.size w wr
section
variable {w wr wr' : World} {T : List J} {bh : Int} {l : List (PK × Int)} {v : Value} {i j : Nat} {p q : PK} {id z : Int} (h : NS w wr T bh l v i p id)
include h
theorem NS.far (hb : Below wr.heap.size wr wr') (hn : NB T bh ((l.take j).map (·.1)) p id) : NS w wr' T bh l v j p id :=
  ⟨(hb.block _ (block_lt h.c0)).trans h.c0, (hb.block _ (block_lt h.c1)).trans h.c1, hn, own_keep h.row fun k e => hb.block k (h.row.lt k e).2, h.bl.trans (hb.mono h.bl.size)⟩
theorem NS.set (hb : Below wr.heap.size wr wr') (hn : NB T bh ((l.take j).map (·.1)) q z) : NS w ((wr'.setCell ⟨w.heap.size + 1, 0, none⟩ (.int .i64 q.1)).setCell ⟨w.heap.size + 1, 1, none⟩ (.int .i64 q.2)) T bh l v j q z := by
  have h1 := h.far hb h.nb
  refine ⟨?_, set_two h1.c1, hn, own_keep h1.row fun k e => ?_, (h1.bl.setCell (Nat.le_succ _) _).setCell (Nat.le_succ _) _⟩
  · rw [set_blk_eq (by simp), set_blk_eq (by simp)]; exact h1.c0
  · have := (h1.row.lt k e).1
    rw [set_blk_eq (by simp; omega), set_blk_eq (by simp; omega)]
end
theorem buildP0 (w : World) : (Instr.build 94 #[]).run Try.prog w = .ok (.agg #[.int .i64 0, .int .i64 0]) w := run_build w _ _ _ (by kernel_rfl)
attribute [-go_sem] Instr.build
attribute [local go_sem high] buildP0

set_option maxHeartbeats 6400000 in
set_option maxRecDepth 100000 in
theorem next_any {B B2 : Nat} {w : World} {b tb mb sb : Nat} {lv mv sv : Value} {T : List J} {M : List (PK × Int)} {C : List Cel} {X : List Knot} (h : CT B w b tb mb lv mv T M) (hs : SeqT B2 w sb sv C X) (bh : Int) :
    Calls Try.prog 61 #[.pointer (some ⟨b, 0, none⟩), .pointer (some ⟨sb, 0, none⟩), .int .i64 bh] w fun e w' => ∃ v, e = .returned v ∧ NextV T bh X v ∧ Below w.heap.size w w' := by
  have b2 : Below w.heap.size w ((w.alloc (.cells #[.int .i64 0, .int .i64 0] 94)).alloc (.cells #[.int .i64 0, .int .i64 0] 94)) := ((Below.refl _ _).alloc (Nat.le_refl _) _).alloc (by simp) _
  have r0 := alloc_blk (x := .cells #[.int .i64 0, .int .i64 0] 94) (heap_alloc_new w (.cells #[.int .i64 0, .int .i64 0] 94))
  have r1 := heap_alloc_new (w.alloc (.cells #[.int .i64 0, .int .i64 0] 94)) (.cells #[.int .i64 0, .int .i64 0] 94)
  simp only [World.size_alloc] at r1
  have H := Lib.hid h
  have HS := Lib.hid (hs.below b2)
  have hsz : ((w.alloc (.cells #[.int .i64 0, .int .i64 0] 94)).alloc (.cells #[.int .i64 0, .int .i64 0] 94)).heap.size = w.heap.size + 2 := by simp
  have HZ := Lib.hid hsz
  have B2' := Lib.hid b2
  clear h hs b2 hsz
  go_enter Try.func61, Try.ntmps61
  go_wp2_with fail
  have hsy := HS.out.sym
  have HSY := Lib.hid hsy
  clear hsy
  refine (pairs_any HS.out).mono ?_
  rintro e w3 ⟨v, l, rfl, q1, q2, q3, q4, hrow, b3⟩
  have hmem := pairs_mem q1 q2 q4
  have HMEM := Lib.hid hmem
  have r03 := (b3.block _ (block_lt r0)).trans r0
  have r13 := (b3.block _ (block_lt r1)).trans r1
  have hXl := HS.out.len
  have hll : l.length ≤ 1000000 := by have := HS.out.num; omega
  have HB3 := Lib.hid (B2'.out.trans (b3.mono (by rw [HZ.out]; omega)))
  have hbase : w.heap.size + 2 ≤ ((w.alloc (.cells #[.int .i64 0, .int .i64 0] 94)).alloc (.cells #[.int .i64 0, .int .i64 0] 94)).heap.size := by rw [HZ.out]; exact Nat.le_refl _
  have HROW := Lib.hid (row_low hrow hbase)
  have HCT := Lib.hid (H.out.below (HB3.out))
  obtain ⟨A, cp, hv⟩ := Bld.own_slice hrow
  subst hv
  clear hmem q1 q2 q4 r0 r1 b3 hrow hbase HS
  go_wp2_with fail
  go_loopw [9, 19] (fun v9 v19 wr => ∃ (i : Nat) (p : PK) (id : Int), i ≤ l.length ∧ v9 = .int .i64 id ∧ v19 = .int .i64 (i : Int) ∧ Hid (NS w wr T bh l (.slice A l.length cp) i p id)) (fun _ i _ => l.length - (intOf i).toNat)
  case atStart => exact ⟨0, (0, 0), 0, by omega, rfl, rfl, Lib.hid ⟨r03, r13, NB.start T bh, HROW.out, HB3.out⟩⟩
  case round =>
    clear HB3 HROW HCT r03 r13
    obtain ⟨i, p, id, hi, rfl, rfl, HS⟩ := hrel
    by_cases hlt : i < l.length
    · have hx := List.getElem?_eq_getElem hlt
      obtain ⟨ad, cap, e0, hcap, hx0, hxj⟩ := own_at encG_len HS.out.row (by omega) hx
      cases e0
      have htk : l.take (i + 1) = l.take i ++ [l[i]] := List.take_succ_eq_append_getElem hlt
      have hin := (HMEM.out l[i].1).1 (List.mem_map.2 ⟨_, List.getElem_mem hlt, rfl⟩)
      generalize l[i] = x at *
      obtain ⟨⟨xa, xb⟩, xn⟩ := x
      simp only at hin
      have x0 := hx0 _ rfl
      have x1 := hxj 1 _ rfl
      have x2 := hxj 2 _ rfl
      simp only at x0 x1 x2
      have hp64 : P64 (xa, xb) := by
        have := adj_mem _ _ hin
        obtain ⟨k1, hk1, e1⟩ := List.mem_map.1 this.1
        obtain ⟨k2, hk2, e2⟩ := List.mem_map.1 this.2
        exact ⟨e1 ▸ HSY.out _ hk1, e2 ▸ HSY.out _ hk2⟩
      have hba := ((Below.refl wr.heap.size wr).alloc (Nat.le_refl _) (.cells #[.int .i64 xa, .int .i64 xb, .int .i64 xn] tCh))
      have HT1 := Lib.hid ((H.out.below HS.out.bl).below hba)
      have hlk := fun n => look_ok2 (p := (xa, xb)) (HT1.out.pm.keep (w' := (wr.alloc (.cells #[.int .i64 xa, .int .i64 xb, .int .i64 xn] tCh)).drewN n) rfl) HT1.out.is hp64
      simp only at hlk
      have k1 := cell_at HT1.out.blk 1
      simp only [List.getElem?_toArray, List.getElem?_cons_zero, List.getElem?_cons_succ] at k1
      have HTK := Lib.hid (show (l.take (i + 1)).map (·.1) = (l.take i).map (·.1) ++ [(xa, xb)] by rw [htk, List.map_append]; rfl)
      have HBN := Lib.hid (fun n => hba.trans (bdrew _ (wr.alloc (.cells #[.int .i64 xa, .int .i64 xb, .int .i64 xn] tCh)) n))
      have pb := alloc_blk (x := .cells #[.int .i64 xa, .int .i64 xb, .int .i64 xn] tCh) HS.out.c1
      have p0 := cell_at pb 0
      have p1 := cell_at pb 1
      have f0 := frozen_at pb 0
      have f1 := frozen_at pb 1
      simp only [List.getElem?_toArray, List.getElem?_cons_zero, List.getElem?_cons_succ] at p0 p1
      clear hx hx0 hxj htk hin hp64 hba pb
      obtain ⟨o, ho⟩ : ∃ o, by_ T (xa, xb) = o := ⟨_, rfl⟩
      rw [ho] at hlk
      have HO := Lib.hid ho
      clear ho
      rcases o with _ | z
      · simp only [Option.getD_none, Option.isSome_none] at hlk
        go_wp2_with fail
        go_quiet (fail)
        go_wp2_with fail
        go_roundw
        case rel => exact ⟨i + 1, p, id, by omega, rfl, by go_num, Lib.hid (HS.out.far (HBN.out _) (by rw [HTK.out]; exact HS.out.nb.skip (fun z hz => by rw [HO.out] at hz; cases hz)))⟩
        case measure => simp [intOf]; omega
      · simp only [Option.getD_some, Option.isSome_some] at hlk
        have hz0 := by_pos HO.out
        by_cases hb : bh < z
        · by_cases hid : id = 0
          · have d1 : decide (id = 0) = true := by simp [hid]
            go_wp2_with fail
            go_quiet (fail)
            go_wp2_with fail
            go_region
            go_wp2_with fail
            go_roundw
            case rel =>
              refine ⟨i + 1, (xa, xb), z, by omega, rfl, by go_num, Lib.hid ?_⟩
              exact HS.out.set (HBN.out _) (by rw [HTK.out]; exact HS.out.nb.take HO.out hb (.inl hid))
            case measure => simp [intOf]; omega
          · by_cases hzi : z < id
            · have d1 : decide (id = 0) = false := by simp [hid]
              have d2 : decide (z < id) = true := by simp [hzi]
              go_wp2_with fail
              go_quiet (fail)
              go_wp2_with fail
              go_region
              go_wp2_with fail
              go_roundw
              case rel =>
                refine ⟨i + 1, (xa, xb), z, by omega, rfl, by go_num, Lib.hid ?_⟩
                exact HS.out.set (HBN.out _) (by rw [HTK.out]; exact HS.out.nb.take HO.out hb (.inr hzi))
              case measure => simp [intOf]; omega
            · have d1 : decide (id = 0) = false := by simp [hid]
              have d2 : decide (z < id) = false := by simp [hzi]
              go_wp2_with fail
              go_quiet (fail)
              go_wp2_with fail
              go_roundw
              case rel => exact ⟨i + 1, p, id, by omega, rfl, by go_num, Lib.hid (HS.out.far (HBN.out _) (by rw [HTK.out]; exact HS.out.nb.skip (fun y hy => by rw [HO.out] at hy; cases hy; omega)))⟩
              case measure => simp [intOf]; omega
        · go_wp2_with fail
          go_quiet (fail)
          go_wp2_with fail
          go_roundw
          case rel => exact ⟨i + 1, p, id, by omega, rfl, by go_num, Lib.hid (HS.out.far (HBN.out _) (by rw [HTK.out]; exact HS.out.nb.skip (fun y hy => by rw [HO.out] at hy; cases hy; omega)))⟩
          case measure => simp [intOf]; omega
    · obtain rfl : i = l.length := by omega
      have p0 := cell_at HS.out.c1 0
      have p1 := cell_at HS.out.c1 1
      have z0 := cell_at HS.out.c0 0
      have z1 := cell_at HS.out.c0 1
      have f0 := frozen_at HS.out.c0 0
      have f1 := frozen_at HS.out.c0 1
      simp only [List.getElem?_toArray, List.getElem?_cons_zero, List.getElem?_cons_succ] at p0 p1 z0 z1
      have hnb := HS.out.nb
      rw [List.take_length] at hnb
      have HNB := Lib.hid hnb
      have HBE := Lib.hid ((HS.out.bl.setCell (p := ⟨w.heap.size, 0, none⟩) (Nat.le_refl _) (.int .i64 p.1)).setCell (p := ⟨w.heap.size, 1, none⟩) (Nat.le_refl _) (.int .i64 p.2))
      have w0 := cell_at (set_two (x := .int .i64 p.1) (y := .int .i64 p.2) HS.out.c0) 0
      have w1 := cell_at (set_two (x := .int .i64 p.1) (y := .int .i64 p.2) HS.out.c0) 1
      simp only [List.getElem?_toArray, List.getElem?_cons_zero, List.getElem?_cons_succ] at w0 w1
      clear hnb HSY
      by_cases hid : id = 0
      · subst hid
        obtain ⟨rfl, _⟩ := HNB.out.none_ rfl
        go_wp2_with fail
        exact bodyPost_ret (v := .tuple #[.agg #[.int .i64 0, .int .i64 0], .int .i64 0, .bool false]) (by simp [results, Try.results61, go_sem, w0, w1]) rfl ⟨_, rfl, ⟨_, _, _, rfl, HNB.out, HMEM.out⟩, HBE.out⟩
      · go_wp2_with fail
        exact bodyPost_ret (v := .tuple #[.agg #[.int .i64 p.1, .int .i64 p.2], .int .i64 id, .bool true]) (by simp [results, Try.results61, go_sem, w0, w1, hid]) rfl ⟨_, rfl, ⟨_, _, _, by simp [hid], HNB.out, HMEM.out⟩, HBE.out⟩
end Go.Proofs.Ythinomhjhkhidaa.Cod

namespace Go.Proofs.Ythinomhjhkhidaa.Cod
open Go.RowKit Go.Maps Go.Proofs.YthinomhjhkhidaaW.PrintWords Go.Proofs.YthinomhjhkhidaaW.PrintLast Go.Proofs.YthinomhjhkhidaaW.PrintMore Base Foot SymPure CodPure PMap SeqPure SeqM
set_option linter.unusedVariables false
set_option linter.unusedSimpArgs false
attribute [local go_sem ↓] Go.wp_at_zero Go.wp_at_succ

theorem foot_ge {B : Nat} {w : World} {b : Nat} {sv : Value} {C : List Cel} {X : List Knot} (h : SeqT B w b sv C X) (hb : B ≤ b) : ∀ k, SFoot b sv k → B ≤ k := by
  rintro k (rfl | hk)
  · exact hb
  · exact (h.row.lt k hk).1
def bytesI (s : ByteArray) : List Int := s.data.toList.map fun c => (c.toNat : Int)
theorem enc_end {T : List J} (hM : Made T) {s : List Int} {k : Nat} {bh : Int} {D : List PK} {p : PK} (hn : NB T bh D p 0) (hD : ∀ q, q ∈ D ↔ q ∈ adj (encK T s k)) (hk : bh = 0 ∧ k = 0 ∨ bh = 255 + (k : Int)) (hkT : k ≤ T.length) : encK T s k = encK T s T.length := by
  have h := encK_skips (T := T) (s := s) (k := k) (T.length - k) (fun i x h1 h2 hx hm => by
    have := (hn.none_ rfl).2 (prJ x) ((hD _).2 hm) _ (made_by hM hx)
    omega)
  rw [← h]
  congr 1
  omega
theorem enc_go {T : List J} (hM : Made T) {s : List Int} {k : Nat} {bh : Int} {D : List PK} {p : PK} {id : Int} (hn : NB T bh D p id) (hid : id ≠ 0) (hD : ∀ q, q ∈ D ↔ q ∈ adj (encK T s k)) (hk : bh = 0 ∧ k = 0 ∨ bh = 255 + (k : Int)) :
    ∃ j : Nat, j < T.length ∧ id = 256 + (j : Int) ∧ k ≤ j ∧ (mrg p id (encK T s k)).1 = encK T s (j + 1) := by
  obtain ⟨h1, h2, h3, h4⟩ := hn.some_ hid
  obtain ⟨j, x, hx, he, rfl⟩ := by_some h2
  have hj := (List.getElem?_eq_some_iff.1 hx).1
  have hkj : k ≤ j := by omega
  have h := encK_skips (T := T) (s := s) (k := k) (j - k) (fun i y g1 g2 hy hm => by
    have := h4 (prJ y) ((hD _).2 hm) _ (made_by hM hy) (by omega)
    omega)
  have e : k + (j - k) = j := by omega
  rw [e] at h
  refine ⟨j, hj, rfl, hkj, ?_⟩
  show _ = (match T[j]? with | some x => (mrg (prJ x) (256 + (j : Int)) (encK T s j)).1 | none => encK T s j)
  rw [hx, h, ← he]

theorem encode_nil (s : ByteArray) (w : World) : Calls Try.prog 37 #[.pointer none, .string s] w fun e w' => e = .returned (.slice none 0 0) ∧ w = w' := by
  go_enter Try.func37, Try.ntmps37
  go_wp2
  go_ret
  exact ⟨rfl, rfl⟩

set_option maxHeartbeats 6400000 in
set_option maxRecDepth 100000 in
theorem encode_any {B : Nat} {w : World} {b tb mb : Nat} {lv mv : Value} {T : List J} {M : List (PK × Int)} (h : CT B w b tb mb lv mv T M) (s : ByteArray) (hs : s.size ≤ 100000) :
    Calls Try.prog 37 #[.pointer (some ⟨b, 0, none⟩), .string s] w fun e w' => ∃ v, e = .returned v ∧ w'.ownsRow w.heap.size 3 1 v (encK T (bytesI s) T.length).length ((encK T (bytesI s) T.length).flatMap SeqM.encI) ∧ Below w.heap.size w w' := by
  have H := Lib.hid h
  have hT := h.st.small
  have HM := Lib.hid h.st.good
  clear h
  go_enter Try.func37, Try.ntmps37
  go_wp2_with fail
  refine (SeqM.new_any s w hs).mono ?_
  rintro e w1 ⟨rfl, ⟨sv, C, hS⟩, b1⟩
  have HS := Lib.hid hS
  have HB := Lib.hid b1
  clear hS b1
  go_wp2_with fail
  go_loopw [6] (fun v6 wr => ∃ (k : Nat) (bh : Int) (C : List Cel) (X : List Knot), k ≤ T.length ∧ v6 = .int .i64 bh ∧ Hid (bh = 0 ∧ k = 0 ∨ bh = 255 + (k : Int)) ∧ Hid (SeqT w.heap.size wr w.heap.size sv C X) ∧ Hid (syms X = encK T (bytesI s) k) ∧ Hid (Below w.heap.size w wr)) (fun i _ => (T.length + 256) - (intOf i).toNat)
  case atStart => exact ⟨0, 0, C, _, by omega, rfl, Lib.hid (.inl ⟨rfl, rfl⟩), HS, Lib.hid (syms_initX _ _), HB⟩
  case round =>
    clear HS HB
    obtain ⟨k, bh, C, X, hk, rfl, HK, HS, HX, HB⟩ := hrel
    go_wp2_with fail
    refine (next_any (H.out.below HB.out) HS.out bh).mono ?_
    rintro e w2 ⟨v, rfl, ⟨p, id, D, rfl, hnb, hD⟩, b2⟩
    rw [HX.out] at hD
    by_cases hid : id = 0
    · subst hid
      have HE := Lib.hid (enc_end HM.out hnb hD HK.out hk)
      have HS2 := Lib.hid ((HS.out.below b2).below ((Below.refl _ _).alloc (Nat.le_refl _) (.cells #[.int .i64 p.1, .int .i64 p.2] 94)))
      have HB2 := Lib.hid ((HB.out.trans (b2.mono HB.out.size)).alloc (by have := HB.out.size; have := b2.size; omega) (.cells #[.int .i64 p.1, .int .i64 p.2] 94))
      clear hnb hD b2
      go_wp2_with fail
      refine (SeqM.symbols_any HS2.out).mono ?_
      rintro e w3 ⟨v, rfl, hrow, b3⟩
      go_wp2_with fail
      go_ret
      rw [← HE.out, ← HX.out]
      exact ⟨_, rfl, row_low hrow HB2.out.size, HB2.out.trans (b3.mono HB2.out.size)⟩
    · obtain ⟨j, hj, rfl, hkj, hm⟩ := enc_go HM.out hnb hid hD HK.out
      have HJ := Lib.hid hm
      have HKK := Lib.hid (show bh < 256 + (j : Int) from (hnb.some_ hid).2.2.1)
      have HS2 := Lib.hid ((HS.out.below b2).below ((Below.refl _ _).alloc (Nat.le_refl _) (.cells #[.int .i64 p.1, .int .i64 p.2] 94)))
      have HB2 := Lib.hid ((HB.out.trans (b2.mono HB.out.size)).alloc (by have := HB.out.size; have := b2.size; omega) (.cells #[.int .i64 p.1, .int .i64 p.2] 94))
      clear hnb hD b2 hm
      go_wp2_with fail
      refine (SeqM.merge_any HS2.out p (256 + (j : Int)) (by unfold In64; omega)).mono ?_
      rintro e w3 ⟨C', X', v, l, rfl, hS3, hC3, hX3, _, _, _, _, _, hU⟩
      have HS3 := Lib.hid hS3
      have HX3 := Lib.hid (show syms X' = encK T (bytesI s) (j + 1) by rw [hX3, HX.out]; exact HJ.out)
      have HB3 := Lib.hid (HB2.out.trans (hU.below HB2.out.size (foot_ge HS2.out (Nat.le_refl _))))
      clear hS3 hC3 hX3 hU
      go_wp2_with fail
      go_roundw
      case rel => exact ⟨j + 1, _, _, _, by omega, rfl, Lib.hid (.inr (by omega)), HS3, HX3, HB3⟩
      case measure => have := HKK.out; have := HK.out; simp [intOf]; omega
end Go.Proofs.Ythinomhjhkhidaa.Cod
