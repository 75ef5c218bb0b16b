/- gluepotref11: the pairs of two words, each once, rising, walked. -/
import Derived.Test.YtaecngdabgnamaaRefSeq2
import Derived.Test.YtaecngdabgnamaaSeqRise
import Derived.Test.YtaecngdabgnamaaSrc
import Derived.Deep.RegionHeld3
import Derived.Deep.RegionLaw
import Derived.Deep.AppendLies
import Derived.Deep.CutRange
import Derived.Deep.CutBlock
namespace Go.Proofs.Ytaecngdabgnamaa.RefSeq
open Go.RowKit Go.Maps Go.Proofs.YtaecngdabgnamaaW.PrintWords Go.Proofs.YtaecngdabgnamaaW.PrintLast Go.Proofs.YtaecngdabgnamaaW.PrintMore Base Foot ExtTail PMap SeqPure SeqM Src
set_option linter.unusedVariables false
set_option linter.unusedSimpArgs false
attribute [local go_sem ↓] Go.wp_at_zero Go.wp_at_succ
attribute [local go_sem high] eqP

def encP (x : PK) : List Value := [.int .i64 x.1, .int .i64 x.2]
theorem encP_len (x : PK) : (encP x).length = 2 := rfl
theorem infoP : (Try.prog.info? 23).map (fun i => (i.zero, i.size, i.bytes)) = some (some (.agg #[.int .i64 0, .int .i64 0]), 2, 16) := by kernel_rfl
abbrev RowP (B : Nat) (W : World) (v : Value) (L : List PK) : Prop := W.ownsRow B 23 2 v L.length (L.flatMap encP)
def Sk (a b : List Int) : Nat → List PK
  | 0 => []
  | 1 => adj a
  | _ => adj a ++ adj b
theorem pk_cell {W : World} {B : Nat} {A : Option Addr} {cp n : Nat} {L : List PK} (h : W.ownsRow B 23 2 (.slice A n cp) n (L.flatMap encP)) {k : Nat} {x : PK} (hx : L[k]? = some x) : ∃ g, A = some ⟨g, 0, none⟩ ∧ n ≤ cp ∧ W.cell? ⟨g, k * 2, none⟩ = some (.int .i64 x.1) ∧ W.cell? ⟨g, k * 2 + 1, none⟩ = some (.int .i64 x.2) ∧ B ≤ g ∧ g < W.heap.size := by
  obtain ⟨g, cap, e, h1, h2⟩ := own_get encP_len h (by omega) hx
  cases e
  have h3 := h.lt g rfl
  exact ⟨g, rfl, h1, by simpa using h2 0 _ rfl, h2 1 _ rfl, h3.1, h3.2⟩
theorem src_take {w : World} {B cap : Nat} {A : Option Addr} {l : List PK} (h : w.ownsRow B 23 2 (.slice A l.length cap) l.length (l.flatMap encP)) {i : Nat} (hi : i ≤ l.length) : Src w 2 A i ((l.take i).flatMap encP) := by
  refine ⟨by rw [flat_len encP 2 encP_len, List.length_take, Nat.min_eq_left hi], fun hn => ?_⟩
  obtain ⟨ad, e, hc⟩ := (Src.of_own h).2 (by omega)
  refine ⟨ad, e, fun j u hj => hc j u ?_⟩
  rw [← List.take_append_drop i l, List.flatMap_append, List.getElem?_append_left (List.getElem?_eq_some_iff.1 hj).1]
  exact hj
theorem src_drop {w : World} {B g cap : Nat} {l : List PK} (h : w.ownsRow B 23 2 (.slice (some ⟨g, 0, none⟩) l.length cap) l.length (l.flatMap encP)) {i : Nat} (hi : i ≤ l.length) : Src w 2 (some ⟨g, i * 2, none⟩) (l.length - i) ((l.drop i).flatMap encP) := by
  refine ⟨by rw [flat_len encP 2 encP_len, List.length_drop], fun hn => ⟨_, rfl, fun j u hj => ?_⟩⟩
  obtain ⟨ad, e, hc⟩ := (Src.of_own h).2 (by omega)
  cases e
  have hlt : ((l.take i).flatMap encP).length = i * 2 := by rw [flat_len encP 2 encP_len, List.length_take, Nat.min_eq_left hi]
  have := hc (i * 2 + j) u (by
    rw [← List.take_append_drop i l, List.flatMap_append, List.getElem?_append_right (by omega), hlt, Nat.add_sub_cancel_left]
    exact hj)
  rw [addr_add] at this ⊢
  rwa [Nat.zero_add] at this
theorem sizeP (w : World) : (Go.sizeOf 23).run Try.prog w = .ok 2 w := by kernel_rfl
theorem b_oneR (w : World) (o : Obj) : Below w.heap.size w (w.alloc o) := (Below.refl _ _).alloc (Nat.le_refl _) o
def loA (A : Option Addr) (c m : Nat) : Option Addr := if c = m then A else A.map (·.add (m * 2))
theorem sl_hi {W : World} {B c m : Nat} {A : Option Addr} {L : List PK} (h : W.ownsRow B 23 2 (.slice A L.length c) L.length (L.flatMap encP)) (hm : m ≤ L.length) :
    ∀ V, (Instr.slice 44 (.slice A L.length c) none (some (.int .i64 (m : Int))) none).run Try.prog V = .ok (.slice A m c) V := by
  have hf : (A = none ∧ c = 0 ∧ L.length = 0) ∨ ∃ g, A = some ⟨g, 0, none⟩ ∧ L.length ≤ c := by
    rcases h.2 with ⟨e, h0⟩ | ⟨g, cap, cur, e, _, _, h1, _⟩
    · obtain ⟨rfl, _, rfl⟩ : A = none ∧ L.length = 0 ∧ c = 0 := by simpa using e
      exact .inl ⟨rfl, rfl, h0⟩
    · cases e; exact .inr ⟨g, rfl, h1⟩
  intro V
  have hmc : m ≤ c := by rcases hf with ⟨_, h1, h2⟩ | ⟨g, _, h1⟩ <;> omega
  have hA : (if c = 0 then A else A.map (·.add (0 * 2))) = A := by
    split
    · rfl
    · rcases hf with ⟨rfl, _⟩ | ⟨g, rfl, _⟩
      · rfl
      · simp [addr_add]
  have hb : (Instr.sliceBounds true L.length c none (some (.int .i64 (m : Int))) none).run Try.prog V = .ok (0, m, c) V := by
    unfold Instr.sliceBounds
    simp [run_sliceBound, hmc, Result.andThen]
  simp only [Instr.slice, Sem.run_bind, run_underlying Try.underlying44, Result.andThen_ok, hb, sizeP, Sem.run_pure, Nat.sub_zero]
  rw [hA]
theorem sl_lo {W : World} {B c m : Nat} {A : Option Addr} {L : List PK} (h : W.ownsRow B 23 2 (.slice A L.length c) L.length (L.flatMap encP)) (hm : m ≤ L.length) :
    (∀ V, (Instr.slice 44 (.slice A L.length c) (some (.int .i64 (m : Int))) none none).run Try.prog V = .ok (.slice (loA A c m) (L.length - m) (c - m)) V) ∧ Src W 2 (loA A c m) (L.length - m) ((L.drop m).flatMap encP) := by
  have hf : (A = none ∧ c = 0 ∧ L.length = 0) ∨ ∃ g, A = some ⟨g, 0, none⟩ ∧ L.length ≤ c := by
    rcases h.2 with ⟨e, h0⟩ | ⟨g, cap, cur, e, _, _, h1, _⟩
    · obtain ⟨rfl, _, rfl⟩ : A = none ∧ L.length = 0 ∧ c = 0 := by simpa using e
      exact .inl ⟨rfl, rfl, h0⟩
    · cases e; exact .inr ⟨g, rfl, h1⟩
  refine ⟨fun V => ?_, ?_⟩
  · have hb : (Instr.sliceBounds true L.length c (some (.int .i64 (m : Int))) none none).run Try.prog V = .ok (m, L.length, c) V := by
      unfold Instr.sliceBounds
      simp [run_sliceBound, hm, Result.andThen]
    simp only [Instr.slice, Sem.run_bind, run_underlying Try.underlying44, Result.andThen_ok, hb, sizeP, Sem.run_pure]
    rfl
  · unfold loA
    by_cases hc : c = m
    · have hl : L.length - m = 0 := by rcases hf with ⟨_, h1, h2⟩ | ⟨g, _, h1⟩ <;> omega
      rw [if_pos hc, hl, List.drop_eq_nil_of_le (by omega)]
      exact ⟨rfl, fun h => absurd h (by omega)⟩
    · rw [if_neg hc]
      rcases hf with ⟨rfl, h1, h2⟩ | ⟨g, rfl, h1⟩
      · omega
      · have := src_drop h hm
        simpa [addr_add] using this
theorem enc_one (l : List PK) : ∀ u ∈ l.flatMap encP, u.oneCell' = true := by
  intro u hu
  obtain ⟨x, _, hx⟩ := List.mem_flatMap.1 hu
  simp [encP] at hx
  rcases hx with rfl | rfl <;> rfl
theorem src_blk {w : World} {g : Nat} {p1 p2 : Int} (h : w.heap[g]? = some (.cells #[.int .i64 p1, .int .i64 p2] 23 (0, 0))) : Src w 2 (some ⟨g, 0, none⟩) 1 [.int .i64 p1, .int .i64 p2] :=
  ⟨rfl, fun _ => ⟨_, rfl, fun j u hj => by rw [addr_add, Nat.zero_add, cell_at h]; simpa using hj⟩⟩
set_option maxHeartbeats 6400000 in
set_option maxRecDepth 100000 in
theorem rising_any {B1 B2 : Nat} {w : World} {va vb : Value} {a b : List Int} (ha : Row B1 w va a) (hb' : Row B2 w vb b) (hla : a.length ≤ 1000000) (hlb : b.length ≤ 1000000) :
    Calls Try.prog 41 #[va, vb] w fun e w' => ∃ v L, e = .returned v ∧ Ri L (adj a ++ adj b) ∧ RowP w.heap.size w' v L ∧ Below w.heap.size w w' := by
  obtain ⟨iP, hiP, zP0, zP1, zP2⟩ := info_parts infoP
  obtain ⟨Aa, ca, rfl⟩ := own_slc ha
  obtain ⟨Ab, cb, rfl⟩ := own_slc hb'
  have HA := Lib.hid ha
  have HB := Lib.hid hb'
  have hja := adj_len a
  have hjb := adj_len b
  clear ha hb'
  go_enter Try.func41, Try.ntmps41
  go_wp2_with fail
  go_loopw [5, 6] (fun v5 v6 wr => ∃ (k : Nat) (L : List PK) (ov : Value), k ≤ 2 ∧ ov = v5 ∧ v6 = .int .i64 (k : Int) ∧ Hid (Ri L (Sk a b k)) ∧ wr.ownsRow w.heap.size 23 2 ov L.length (L.flatMap encP) ∧ Below w.heap.size w wr) (fun _ i _ => 2 - (intOf i).toNat)
  case atStart => exact ⟨0, [], _, by omega, rfl, rfl, Lib.hid Ri.nil, World.ownsRow_nil _ _ _ _, Below.refl _ _⟩
  case round =>
    obtain ⟨k, L, ov, hk, rfl, rfl, HRI, hrow, hb⟩ := hrel
    by_cases hk2 : k < 2
    · go_upto_if 17 with fail
      go_cut [7] from 11 to 73 (fun v7 wx => ∃ (X : List Int) (Bx : Nat) (Ax : Option Addr) (cx : Nat), v7 = .slice Ax X.length cx ∧ Hid (Row Bx w (.slice Ax X.length cx) X) ∧ X.length ≤ 1000000 ∧ Hid (Sk a b k ++ adj X = Sk a b (k + 1)) ∧ wx = wr)
      case first =>
        rcases (show k = 0 ∨ k = 1 by omega) with rfl | rfl
        · go_wp2_with fail
          go_meet
          exact ⟨a, _, _, _, rfl, HA, hla, Lib.hid (by simp [Sk]), rfl⟩
        · go_wp2_with fail
          go_meet
          exact ⟨b, _, _, _, rfl, HB, hlb, Lib.hid (by simp [Sk]), rfl⟩
      case rest =>
        obtain ⟨X, Bx, Ax, cx, rfl, HX, hlX, HSK, rfl⟩ := hcut
        have hs0 : (Sk a b k).length ≤ 1000000 := by rcases (show k = 0 ∨ k = 1 by omega) with rfl | rfl <;> simp [Sk] <;> omega
        have HR0 := Lib.hid (show Ri L (Sk a b k ++ adj (X.take (0 + 1))) by rw [adj_one, List.append_nil]; exact HRI.out)
        generalize Sk a b k = S0 at *
        clear HRI
        go_wp2_with fail
        go_loopw [5, 8] (fun v5 v8 wr => ∃ (i : Nat) (L : List PK) (ov : Value), i ≤ X.length ∧ ov = v5 ∧ v8 = .int .i64 (i : Int) ∧ Hid (Ri L (S0 ++ adj (X.take (i + 1)))) ∧ wr.ownsRow w.heap.size 23 2 ov L.length (L.flatMap encP) ∧ Below w.heap.size w wr) (fun _ i _ => X.length - (intOf i).toNat)
        case atStart => exact ⟨0, L, ov, by omega, rfl, rfl, HR0, hrow, hb⟩
        case round =>
          clear HR0 hrow hb
          obtain ⟨i, L, ov, hi, rfl, rfl, HRI, hrow, hb⟩ := hrel
          have hLl : L.length ≤ 2000000 := by
            have h1 := HRI.out.len
            have h2 := adj_len (X.take (i + 1))
            rw [List.length_take] at h2
            rw [List.length_append] at h1
            omega
          have hi0 : (0 : Int) ≤ (i : Int) := by omega
          by_cases hlt : i + 1 < X.length
          · have hli3 : (i : Int) + 1 < (X.length : Int) := by omega
            have hli : (i : Int) < (X.length : Int) := by omega
            have hx := List.getElem?_eq_getElem (l := X) (i := i) (by omega)
            generalize X[i]'(by omega) = p1 at hx
            have hy := List.getElem?_eq_getElem hlt
            generalize X[i + 1] = p2 at hy
            have HTK := Lib.hid (adj_take hx hy)
            obtain ⟨gx, rfl, hlc, hca, hg1, hg2⟩ := int_cell HX.out hx
            obtain ⟨g', e, _, hcb, _, _⟩ := int_cell HX.out hy
            cases e
            have hca' := (hb.cell (p := ⟨gx, i, none⟩) hg2).trans hca
            have hcb' := (hb.cell (p := ⟨gx, i + 1, none⟩) hg2).trans hcb
            have hw1 : IntKind.i64.wrap ((i : Int) + 1) = (i : Int) + 1 := IntWalk.i64_in _ (by omega)
            have hn1 : (0 : Int) ≤ (i : Int) + 1 := by omega
            have hn2 : ((i : Int) + 1).toNat = i + 1 := by omega
            have hbs := hb.size
            have hgx : gx < wr.heap.size := by omega
            have zz1 : ∀ O, (wr.alloc O).cell? ⟨gx, i, none⟩ = some (.int .i64 p1) := fun O => (((Below.refl _ _).alloc (Nat.le_refl _) O).cell (p := ⟨gx, i, none⟩) hgx).trans hca'
            have zz2 : ∀ O, (wr.alloc O).cell? ⟨gx, i + 1, none⟩ = some (.int .i64 p2) := fun O => (((Below.refl _ _).alloc (Nat.le_refl _) O).cell (p := ⟨gx, i + 1, none⟩) hgx).trans hcb'
            clear hx hy hca hcb
            go_wp2_with fail
            go_region_held3 (fun w' => w'.cell? ⟨gx, i, none⟩ = some (.int .i64 p1) ∧ w'.cell? ⟨gx, i + 1, none⟩ = some (.int .i64 p2)) (first | exact ⟨hca', hcb'⟩ | exact ⟨zz1 _, zz2 _⟩) (fail)
            have b3 : Below wr.heap.size wr (wr.alloc (.cells #[.int .i64 p1, .int .i64 p2] 23)).drew := ((Below.refl _ _).alloc (Nat.le_refl _) _).drew
            have x3 : (wr.alloc (.cells #[.int .i64 p1, .int .i64 p2] 23)).drew.heap[wr.heap.size]? = some (.cells #[.int .i64 p1, .int .i64 p2] 23 (0, 0)) := heap_alloc_new wr _
            have hrow3 := own_keep (w1 := (wr.alloc (.cells #[.int .i64 p1, .int .i64 p2] 23)).drew) hrow (fun q hq => b3.block q (hrow.lt q hq).2)
            have HB3 := Lib.hid (hb.trans (b3.mono hbs))
            have HROW := Lib.hid hrow3
            have HX3 := Lib.hid x3
            clear hrow hrow3 hb hbs x3 b3 zz1 zz2 hca' hcb' hgx hg1 hg2 hlc
            generalize (wr.alloc (.cells #[.int .i64 p1, .int .i64 p2] 23)).drew = wo at *
            generalize wr.heap.size = bp at *
            obtain ⟨Ao, co, rfl⟩ := own_slc HROW.out
            go_upto_block 4 with fail
            go_cut [10] from 19 to 73 (fun v10 wx => ∃ (k : Nat), k ≤ L.length ∧ v10 = .int .i64 (k : Int) ∧ Hid (∀ j x, j < k → L[j]? = some x → befP x (p1, p2)) ∧ Hid (∀ x, L[k]? = some x → ¬ befP x (p1, p2)) ∧ Below wo.heap.size wo wx)
            case first =>
              go_wp2_with fail
              go_loopw [10] (fun v10 wr => ∃ (k : Nat), k ≤ L.length ∧ v10 = .int .i64 (k : Int) ∧ Hid (∀ j x, j < k → L[j]? = some x → befP x (p1, p2)) ∧ Below wo.heap.size wo wr) (fun i _ => L.length - (intOf i).toNat)
              case atStart => exact ⟨0, by omega, rfl, Lib.hid (fun j x h => by omega), Below.refl _ _⟩
              case round =>
                obtain ⟨k, hk, rfl, HBF, hb⟩ := hrel
                have hbs := hb.size
                have hk0 : (0 : Int) ≤ (k : Int) := by omega
                have x4 := (hb.block _ (block_lt HX3.out)).trans HX3.out
                have e0 := cell_at x4 0
                have e1 := cell_at x4 1
                simp only [List.getElem?_toArray, List.getElem?_cons_zero, List.getElem?_cons_succ] at e0 e1
                by_cases hkl : k < L.length
                · have hkd : decide ((k : Int) < (L.length : Int)) = true := by simp; omega
                  have hkl2 : (k : Int) < (L.length : Int) := by omega
                  have hx := List.getElem?_eq_getElem hkl
                  generalize L[k] = x at hx
                  obtain ⟨x1, x2⟩ := x
                  obtain ⟨go, rfl, hco, hc1, hc2, hg1, hg2⟩ := pk_cell HROW.out hx
                  have y1 := (hb.cell (p := ⟨go, k * 2, none⟩) hg2).trans hc1
                  have y2 := (hb.cell (p := ⟨go, k * 2 + 1, none⟩) hg2).trans hc2
                  simp only at y1 y2
                  have HXK := Lib.hid hx
                  have f0 := fun g => Ext.cell e0 g
                  have f1 := fun g => Ext.cell e1 g
                  have f2 := fun g => Ext.cell y1 g
                  have f3 := fun g => Ext.cell y2 g
                  have hbef := fun V => before_any (x1, x2) (p1, p2) V
                  clear hx hc1 hc2 x4
                  unfold vP at hbef
                  go_wp2_with fail
                  refine wp_region_ext (by kernel_rfl) (by kernel_rfl) ?_
                  repeat (quiet_step (first | (go_at_call 64; exact ext_of (hbef _))))
                  refine wpQuiet_nil ?_
                  rintro w5 ⟨⟨_, b5⟩, rfl⟩
                  have HB5 := Lib.hid (hb.trans (b5.mono hbs))
                  clear f0 f1 f2 f3 hbef b5 e0 e1 y1 y2
                  by_cases hbf : befP (x1, x2) (p1, p2)
                  · rw [decide_eq_true hbf]
                    have HBF2 := Lib.hid (show ∀ j x, j < k + 1 → L[j]? = some x → befP x (p1, p2) from fun j x hj hxj => by
                      by_cases e : j = k
                      · subst e
                        rw [HXK.out] at hxj
                        cases hxj
                        exact hbf
                      · exact HBF.out j x (by omega) hxj)
                    clear hbf
                    go_wp2_with fail
                    go_roundw
                    case rel => exact ⟨k + 1, by omega, by go_num, HBF2, HB5.out⟩
                    case measure => simp [intOf]; omega
                  · rw [decide_eq_false hbf]
                    have HNB := Lib.hid (show ∀ x, L[k]? = some x → ¬ befP x (p1, p2) from fun x hx => by rw [HXK.out] at hx; cases hx; exact hbf)
                    clear hbf
                    go_wp2_with fail
                    go_meet
                    exact ⟨k, by omega, rfl, HBF, HNB, HB5.out⟩
                · obtain rfl : k = L.length := by omega
                  have hkd : decide ((L.length : Int) < (L.length : Int)) = false := by simp
                  have hkl2 : ¬ (L.length : Int) < (L.length : Int) := by omega
                  have HNB := Lib.hid (show ∀ x, L[L.length]? = some x → ¬ befP x (p1, p2) from fun x hx => by rw [List.getElem?_eq_none (Nat.le_refl _)] at hx; cases hx)
                  clear x4 e0 e1
                  go_wp2_with fail
                  go_quiet (fail)
                  have hb5 : Below wo.heap.size wo (wr.drewN nq) := hb.trans (bdrew _ _ _)
                  go_wp2_with fail
                  go_meet
                  exact ⟨L.length, by omega, rfl, HBF, HNB, hb5⟩
            case rest =>
              obtain ⟨m, hm, rfl, HBF, HNB, hb⟩ := hcut
              have hbs := hb.size
              have hm0 : (0 : Int) ≤ (m : Int) := by omega
              have x4 := (hb.block _ (block_lt HX3.out)).trans HX3.out
              have e0 := cell_at x4 0
              have e1 := cell_at x4 1
              simp only [List.getElem?_toArray, List.getElem?_cons_zero, List.getElem?_cons_succ] at e0 e1
              have X4 := Lib.hid x4
              clear x4
              go_upto_region 15 with fail
              go_cut [61] from 19 to 73 (fun v61 wx => ∃ e : Bool, v61 = .bool e ∧ Hid (e = true → L[m]? = some (p1, p2)) ∧ Hid (e = false → ∀ x, L[m]? = some x → x ≠ (p1, p2)) ∧ Below wo.heap.size wo wx ∧ wx.heap[bp]? = some (.cells #[.int .i64 p1, .int .i64 p2] 23 (0, 0)))
              case first =>
                by_cases hml : m < L.length
                · have hkd : decide ((m : Int) < (L.length : Int)) = true := by simp; omega
                  have hml2 : (m : Int) < (L.length : Int) := by omega
                  have hx := List.getElem?_eq_getElem hml
                  generalize L[m] = x at hx
                  obtain ⟨x1, x2⟩ := x
                  obtain ⟨go, rfl, hco, hc1, hc2, hg1, hg2⟩ := pk_cell HROW.out hx
                  have y1 := (hb.cell (p := ⟨go, m * 2, none⟩) hg2).trans hc1
                  have y2 := (hb.cell (p := ⟨go, m * 2 + 1, none⟩) hg2).trans hc2
                  simp only at y1 y2
                  have HXK := Lib.hid hx
                  clear hx hc1 hc2
                  go_wp2_with fail
                  go_quiet (fail)
                  have hb5 : Below wo.heap.size wo (wc.drewN nq) := hb.trans (bdrew _ _ _)
                  go_wp2_with fail
                  go_meet
                  refine ⟨_, rfl, Lib.hid (fun e => ?_), Lib.hid (fun e x hx => ?_), hb5, X4.out⟩
                  · rw [HXK.out]
                    simp at e
                    rw [e.1, e.2]
                  · rw [HXK.out] at hx
                    cases hx
                    simp at e
                    intro h
                    exact e (Prod.mk.inj h).1 (Prod.mk.inj h).2
                · have hml2 : ¬ (m : Int) < (L.length : Int) := by omega
                  have hkd : decide ((m : Int) < (L.length : Int)) = false := by simp; omega
                  go_wp2_with fail
                  go_quiet (fail)
                  have hb5 : Below wo.heap.size wo (wc.drewN nq) := hb.trans (bdrew _ _ _)
                  go_wp2_with fail
                  go_meet
                  exact ⟨_, rfl, Lib.hid (fun e => by cases e), Lib.hid (fun _ x hx => by have := (List.getElem?_eq_some_iff.1 hx).1; omega), hb5, X4.out⟩
              case rest =>
                obtain ⟨e, rfl, HE1, HE2, hb, hx4⟩ := hcut
                cases e with
                | true =>
                  have HR := HRI.out.same (HE1.out rfl)
                  rw [List.append_assoc, ← HTK.out] at HR
                  have HR2 := Lib.hid HR
                  have hrow5 := own_keep (w1 := wc) HROW.out (fun q hq => hb.block q (HROW.out.lt q hq).2)
                  have hb5 := HB3.out.trans (hb.mono HB3.out.size)
                  clear HR
                  go_wp2_with fail
                  go_roundw
                  case rel => exact ⟨i + 1, L, _, by omega, rfl, by go_num, HR2, hrow5, hb5⟩
                  case measure => simp [intOf]; omega
                | false =>
                  have HR := HRI.out.ins hm HBF.out (fun x hx => ⟨HNB.out x hx, HE2.out rfl x hx⟩)
                  rw [List.append_assoc, ← HTK.out] at HR
                  have HR2 := Lib.hid HR
                  have hrow5 := own_keep (w1 := wc) HROW.out (fun q hq => hb.block q (HROW.out.lt q hq).2)
                  have HB5 := Lib.hid (HB3.out.trans (hb.mono HB3.out.size))
                  have hs1 := sl_hi hrow5 hm
                  obtain ⟨hs2, src2⟩ := sl_lo hrow5 hm
                  have src1 := src_take hrow5 hm
                  have c0 := cell_at hx4 0
                  have c1 := cell_at hx4 1
                  simp only [List.getElem?_toArray, List.getElem?_cons_zero, List.getElem?_cons_succ] at c0 c1
                  have hbpl : bp < wc.heap.size := block_lt hx4
                  have hbd : Below w.heap.size w wc := HB5.out
                  generalize loA Ao co m = Al at *
                  have SRC1 := Lib.hid src1
                  have SRC2 := Lib.hid src2
                  clear HR hrow5 src1 src2 e0 e1 hx4
                  have o1 := own_empty wc wc.heap.size 23 2 (Nat.le_refl _)
                  have o3 : ((wc.alloc (.cells #[.int .i64 p1, .int .i64 p2] 23)).alloc (.cells #[] 23)).ownsRow wc.heap.size 23 2 (.slice (some ⟨wc.heap.size + 1, 0, none⟩) 0 0) 0 [] := by
                    have := own_empty (wc.alloc (.cells #[.int .i64 p1, .int .i64 p2] 23)) wc.heap.size 23 2 (by simp)
                    simpa using this
                  have s1a := fun O => SRC1.out.below (((Below.refl wc.heap.size wc).alloc (Nat.le_refl _) O).drew)
                  have s1b := fun O O' => SRC1.out.below ((((Below.refl wc.heap.size wc).alloc (Nat.le_refl _) O).alloc (by simp) O').drew)
                  have nb2 : ∀ O, ((wc.alloc O).alloc (.cells #[.int .i64 p1, .int .i64 p2] 23)).drew.heap[wc.heap.size + 1]? = some (.cells #[.int .i64 p1, .int .i64 p2] 23 (0, 0)) := fun O => by
                    have := heap_alloc_new (wc.alloc O) (.cells #[.int .i64 p1, .int .i64 p2] 23)
                    rw [World.size_alloc] at this
                    exact this
                  have nb3 : ∀ O, ((wc.alloc (.cells #[.int .i64 p1, .int .i64 p2] 23)).alloc O).drew.heap[wc.heap.size]? = some (.cells #[.int .i64 p1, .int .i64 p2] 23 (0, 0)) := fun O => alloc_blk (heap_alloc_new wc _)
                  have d0 := fun O => ((b_oneR wc O).cell (World.block_lt_of_cell? wc _ c0)).trans c0
                  have d1 := fun O => ((b_oneR wc O).cell (World.block_lt_of_cell? wc _ c1)).trans c1
                  have dd0 := fun O O' => ((b_oneR (wc.alloc O) O').cell (World.block_lt_of_cell? (wc.alloc O) _ (d0 O))).trans (d0 O)
                  have dd1 := fun O O' => ((b_oneR (wc.alloc O) O').cell (World.block_lt_of_cell? (wc.alloc O) _ (d1 O))).trans (d1 O)
                  go_wp2_with fail
                  go_region_held3 (fun w' => w'.cell? ⟨bp, 0, none⟩ = some (.int .i64 p1) ∧ w'.cell? ⟨bp, 1, none⟩ = some (.int .i64 p2)) (first | exact ⟨c0, c1⟩ | exact ⟨d0 _, d1 _⟩ | exact ⟨dd0 _ _, dd1 _ _⟩ | exact ⟨s0, s1⟩ | exact ⟨sa0 _, sa1 _⟩)
                    (first
                      | (refine step_append_src _ (by rfl) (.tmp 69) (.tmp 72) 44 (by rfl) wc.heap.size 23 iP _ 2 16 Try.underlying44 hiP zP0 zP1 zP2 rfl (by omega) v2 (0 + m + 1) _ (by rfl) (by exact hown4) Al (L.length - m) (co - m) ((L.drop m).flatMap encP) (by rfl) (by exact src4) (enc_one _) (by unfold maxLen; omega) (by omega) (by omega) ?_; intro v3 w5 hown5 hgrow5 hat5; have hb5 : Below wc.heap.size wc w5 := hb4.grown hgrow5 hb4s (fun k hk => (hown4.lt k hk).1); have s0 := (hb5.cell (p := ⟨bp, 0, none⟩) hbpl).trans c0; have s1 := (hb5.cell (p := ⟨bp, 1, none⟩) hbpl).trans c1; have H5 := Lib.hid hb5; have HO5 := Lib.hid hown5)
                      | (refine step_append_src _ (by rfl) (.tmp 66) (.tmp 68) 44 (by rfl) wc.heap.size 23 iP _ 2 16 Try.underlying44 hiP zP0 zP1 zP2 rfl (by omega) v1 (0 + m) _ (by rfl) (by exact hown3.alloc _) (some ⟨w3.heap.size, 0, none⟩) 1 1 [.int .i64 p1, .int .i64 p2] (by rfl) (by exact src_blk (heap_alloc_new w3 _)) (by simp [Value.oneCell']) (by unfold maxLen; omega) (by omega) (by first | omega | (simp; omega)) ?_; intro v2 w4 hown4 hgrow4 hat4; have hb4 : Below wc.heap.size wc w4 := (hb3.alloc hb3s _).grown hgrow4 (by first | omega | (simp; omega)) (fun k hk => (hown3.lt k hk).1); have s0 := (hb4.cell (p := ⟨bp, 0, none⟩) hbpl).trans c0; have s1 := (hb4.cell (p := ⟨bp, 1, none⟩) hbpl).trans c1; have hb4s := hb4.size; have src4 := SRC2.out.below hb4)
                      | (refine step_append_src _ (by rfl) (.tmp 66) (.tmp 68) 44 (by rfl) wc.heap.size 23 iP _ 2 16 Try.underlying44 hiP zP0 zP1 zP2 rfl (by omega) v1 (0 + m) _ (by rfl) (by exact hown3) (some ⟨wc.heap.size + 1, 0, none⟩) 1 1 [.int .i64 p1, .int .i64 p2] (by rfl) (by exact src_blk BK2.out) (by simp [Value.oneCell']) (by unfold maxLen; omega) (by omega) (by first | omega | (simp; omega)) ?_; intro v2 w4 hown4 hgrow4 hat4; have hb4 : Below wc.heap.size wc w4 := hb3.grown hgrow4 (by first | omega | (simp; omega)) (fun k hk => (hown3.lt k hk).1); have s0 := (hb4.cell (p := ⟨bp, 0, none⟩) hbpl).trans c0; have s1 := (hb4.cell (p := ⟨bp, 1, none⟩) hbpl).trans c1; have hb4s := hb4.size; have src4 := SRC2.out.below hb4)
                      | (refine step_append_src _ (by rfl) (.tmp 66) (.tmp 68) 44 (by rfl) wc.heap.size 23 iP _ 2 16 Try.underlying44 hiP zP0 zP1 zP2 rfl (by omega) v1 (0 + m) _ (by rfl) (by exact hown3) (some ⟨wc.heap.size, 0, none⟩) 1 1 [.int .i64 p1, .int .i64 p2] (by rfl) (by exact src_blk BK3.out) (by simp [Value.oneCell']) (by unfold maxLen; omega) (by omega) (by first | omega | (simp; omega)) ?_; intro v2 w4 hown4 hgrow4 hat4; have hb4 : Below wc.heap.size wc w4 := hb3.grown hgrow4 (by first | omega | (simp; omega)) (fun k hk => (hown3.lt k hk).1); have s0 := (hb4.cell (p := ⟨bp, 0, none⟩) hbpl).trans c0; have s1 := (hb4.cell (p := ⟨bp, 1, none⟩) hbpl).trans c1; have hb4s := hb4.size; have src4 := SRC2.out.below hb4)
                      | (refine step_append_src _ (by rfl) (.tmp 62) (.tmp 65) 44 (by rfl) wc.heap.size 23 iP _ 2 16 Try.underlying44 hiP zP0 zP1 zP2 rfl (by omega) (.slice (some ⟨wc.heap.size, 0, none⟩) 0 0) 0 [] (by rfl) (by exact o1.drew) Ao m co ((L.take m).flatMap encP) (by rfl) (by exact s1a _) (enc_one _) (by unfold maxLen; omega) (by omega) (by first | (simp; done) | (simp; omega)) ?_; intro v1 w3 hown3 hgrow3 hat3; have hb3 : Below wc.heap.size wc w3 := (((Below.refl _ _).alloc (Nat.le_refl _) _).drew).grown hgrow3 (by first | (simp; done) | (simp; omega)) (fun k hk => by simp [Value.ownBlock] at hk; omega); have s0 := (hb3.cell (p := ⟨bp, 0, none⟩) hbpl).trans c0; have s1 := (hb3.cell (p := ⟨bp, 1, none⟩) hbpl).trans c1; have sa0 := fun O => ((b_oneR w3 O).cell (World.block_lt_of_cell? w3 _ s0)).trans s0; have sa1 := fun O => ((b_oneR w3 O).cell (World.block_lt_of_cell? w3 _ s1)).trans s1; have hb3s := hb3.size; skip)
                      | (refine step_append_src _ (by rfl) (.tmp 62) (.tmp 65) 44 (by rfl) wc.heap.size 23 iP _ 2 16 Try.underlying44 hiP zP0 zP1 zP2 rfl (by omega) (.slice (some ⟨wc.heap.size, 0, none⟩) 0 0) 0 [] (by rfl) (by exact (o1.alloc _).drew) Ao m co ((L.take m).flatMap encP) (by rfl) (by exact s1b _ _) (enc_one _) (by unfold maxLen; omega) (by omega) (by first | (simp; done) | (simp; omega)) ?_; intro v1 w3 hown3 hgrow3 hat3; have hb3 : Below wc.heap.size wc w3 := ((((Below.refl _ _).alloc (Nat.le_refl _) _).alloc (by simp) _).drew).grown hgrow3 (by first | (simp; done) | (simp; omega)) (fun k hk => by simp [Value.ownBlock] at hk; omega); have s0 := (hb3.cell (p := ⟨bp, 0, none⟩) hbpl).trans c0; have s1 := (hb3.cell (p := ⟨bp, 1, none⟩) hbpl).trans c1; have sa0 := fun O => ((b_oneR w3 O).cell (World.block_lt_of_cell? w3 _ s0)).trans s0; have sa1 := fun O => ((b_oneR w3 O).cell (World.block_lt_of_cell? w3 _ s1)).trans s1; have hb3s := hb3.size; have BK2 := Lib.hid (show w3.heap[wc.heap.size + 1]? = some (.cells #[.int .i64 p1, .int .i64 p2] 23 (0, 0)) from (hgrow3.block (wc.heap.size + 1) (by first | (simp; done) | (simp; omega)) (by simp [Value.ownBlock])).trans (nb2 _)))
                      | (refine step_append_src _ (by rfl) (.tmp 62) (.tmp 65) 44 (by rfl) wc.heap.size 23 iP _ 2 16 Try.underlying44 hiP zP0 zP1 zP2 rfl (by omega) (.slice (some ⟨wc.heap.size + 1, 0, none⟩) 0 0) 0 [] (by rfl) (by exact o3.drew) Ao m co ((L.take m).flatMap encP) (by rfl) (by exact s1b _ _) (enc_one _) (by unfold maxLen; omega) (by omega) (by first | (simp; done) | (simp; omega)) ?_; intro v1 w3 hown3 hgrow3 hat3; have hb3 : Below wc.heap.size wc w3 := ((((Below.refl _ _).alloc (Nat.le_refl _) _).alloc (by simp) _).drew).grown hgrow3 (by first | (simp; done) | (simp; omega)) (fun k hk => by simp [Value.ownBlock] at hk; omega); have s0 := (hb3.cell (p := ⟨bp, 0, none⟩) hbpl).trans c0; have s1 := (hb3.cell (p := ⟨bp, 1, none⟩) hbpl).trans c1; have sa0 := fun O => ((b_oneR w3 O).cell (World.block_lt_of_cell? w3 _ s0)).trans s0; have sa1 := fun O => ((b_oneR w3 O).cell (World.block_lt_of_cell? w3 _ s1)).trans s1; have hb3s := hb3.size; have BK3 := Lib.hid (show w3.heap[wc.heap.size]? = some (.cells #[.int .i64 p1, .int .i64 p2] 23 (0, 0)) from (hgrow3.block wc.heap.size (by first | (simp; done) | (simp; omega)) (by simp [Value.ownBlock])).trans (nb3 _))))
                  all_goals
                    have hrow6 := row_low HO5.out HB5.out.size
                    have hb6 := HB5.out.trans (H5.out.mono HB5.out.size)
                    have el : (L.take m ++ (p1, p2) :: L.drop m).length = 0 + m + 1 + (L.length - m) := by simp; omega
                    have HR6 : Hid (w5.ownsRow w.heap.size 23 2 v3 (L.take m ++ (p1, p2) :: L.drop m).length ((L.take m ++ (p1, p2) :: L.drop m).flatMap encP)) := by
                      rw [el]
                      have e2 : (L.take m ++ (p1, p2) :: L.drop m).flatMap encP = [] ++ (L.take m).flatMap encP ++ [.int .i64 p1, .int .i64 p2] ++ (L.drop m).flatMap encP := by simp [encP]
                      rw [e2]
                      exact hrow6
                    go_wp2_with fail
                    go_roundw
                    case rel => exact ⟨i + 1, _, v3, by omega, rfl, by go_num, HR2, HR6.out, hb6⟩
                    case measure => simp [intOf]; omega
          · have hli3 : ¬ (i : Int) + 1 < (X.length : Int) := by omega
            have htk : X.take (i + 1) = X := List.take_of_length_le (by omega)
            rw [htk, HSK.out] at HRI
            go_wp2_with fail
            go_roundw
            case rel => exact ⟨k + 1, L, _, by omega, rfl, by go_num, HRI, hrow, hb⟩
            case measure => simp [intOf]; omega
    · obtain rfl : k = 2 := by omega
      have HRW := Lib.hid hrow
      obtain ⟨A8, c8, rfl⟩ := own_slc hrow
      clear hrow
      go_wp2_with fail
      go_ret
      exact ⟨_, L, rfl, HRI.out, HRW.out, hb⟩
end Go.Proofs.Ytaecngdabgnamaa.RefSeq
