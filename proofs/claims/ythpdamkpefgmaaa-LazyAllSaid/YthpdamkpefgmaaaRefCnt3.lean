/- gluepotref12: a pair's count is set, walked. -/
import Derived.Test.YthpdamkpefgmaaaRefCnt2
import Derived.Deep.CutRange
namespace Go.Proofs.Ythpdamkpefgmaaa.RefCnt
open Go.RowKit Go.Maps Go.ChangeShapes Go.WideShapes Go.Deep Go.Proofs.YthpdamkpefgmaaaW.PrintWords Go.Proofs.YthpdamkpefgmaaaW.PrintLast Go.Proofs.YthpdamkpefgmaaaW.PrintMore Base Foot ExtTail PMap
set_option linter.unusedVariables false
set_option linter.unusedSimpArgs false
attribute [local go_sem ↓] Go.wp_at_zero Go.wp_at_succ
attribute [local go_sem high] eqP

def insL (d : Bool) (p : PK) (n : Int) : List (PK × Int) := if d = true ∧ n ≠ 0 then [(p, n)] else []
theorem ins_no (p : PK) (n : Int) : insL false p n = [] := by simp [insL]
theorem ins_yes (p : PK) (n : Int) (h : n ≠ 0) : insL true p n = [(p, n)] := by simp [insL, h]
theorem ins_len (d : Bool) (p : PK) (n : Int) : (insL d p n).length ≤ 1 := by unfold insL; split <;> simp
theorem drop_le (m : List (PK × Int)) (p : PK) : (dropL m p).length ≤ m.length := List.length_filter_le _ _
structure SetI (m : List (PK × Int)) (p : PK) (n : Int) (i : Nat) (d : Bool) (L : List (PK × Int)) : Prop where
  perm : L.Perm (insL d p n ++ dropL (m.take i) p)
  zero : n = 0 → d = true
  top : m.length < i → d = true
theorem SetI.len {m : List (PK × Int)} {p : PK} {n : Int} {i : Nat} {d : Bool} {L : List (PK × Int)} (h : SetI m p n i d L) : L.length ≤ m.length + 1 := by
  have h1 := h.perm.length_eq
  have h2 := ins_len d p n
  have h3 := drop_le (m.take i) p
  rw [List.length_append] at h1
  rw [List.length_take] at h3
  omega
theorem SetI.put {m : List (PK × Int)} {p : PK} {n : Int} {i : Nat} {L : List (PK × Int)} (h : SetI m p n i false L) : SetI m p n i true (L ++ [(p, n)]) := by
  have hn : n ≠ 0 := fun h0 => by have := h.zero h0; cases this
  refine ⟨?_, fun _ => rfl, fun _ => rfl⟩
  have := h.perm
  rw [ins_no, List.nil_append] at this
  rw [ins_yes _ _ hn]
  exact (this.append_right [(p, n)]).trans (List.perm_append_comm)
theorem SetI.over {m : List (PK × Int)} {p : PK} {n : Int} {L : List (PK × Int)} (h : SetI m p n m.length true L) : SetI m p n (m.length + 1) true L := by
  refine ⟨?_, fun _ => rfl, fun _ => rfl⟩
  have := h.perm
  rw [List.take_of_length_le (Nat.le_refl _)] at this
  rw [List.take_of_length_le (Nat.le_succ _)]
  exact this
theorem SetI.skip {m : List (PK × Int)} {p : PK} {n : Int} {i : Nat} {d : Bool} {L : List (PK × Int)} {x : PK × Int} (h : SetI m p n i d L) (hx : m[i]? = some x) (e : x.1 = p) : SetI m p n (i + 1) d L := by
  refine ⟨?_, h.zero, fun hh => by have := (List.getElem?_eq_some_iff.1 hx).1; omega⟩
  rw [take_drop_step hx, if_pos e, List.append_nil]
  exact h.perm
theorem SetI.more {m : List (PK × Int)} {p : PK} {n : Int} {i : Nat} {d : Bool} {L : List (PK × Int)} {x : PK × Int} (h : SetI m p n i d L) (hx : m[i]? = some x) (e : x.1 ≠ p) : SetI m p n (i + 1) d (L ++ [x]) := by
  refine ⟨?_, h.zero, fun hh => by have := (List.getElem?_eq_some_iff.1 hx).1; omega⟩
  rw [take_drop_step hx, if_neg e, ← List.append_assoc]
  exact h.perm.append_right _
def SetR (m : List (PK × Int)) (p : PK) (n : Int) (m' : List (PK × Int)) : Prop := m'.Perm (if n = 0 then dropL m p else putL m p n)
theorem SetI.done {m : List (PK × Int)} {p : PK} {n : Int} {L : List (PK × Int)} {d : Bool} {i : Nat} (h : SetI m p n i d L) (hi : m.length < i) : SetR m p n L := by
  unfold SetR
  have h1 := h.perm
  rw [h.top hi, List.take_of_length_le (by omega)] at h1
  by_cases h0 : n = 0
  · rw [if_pos h0]
    simpa [insL, h0] using h1
  · rw [if_neg h0]
    rw [ins_yes _ _ h0] at h1
    exact h1
theorem perm_nd {m m' : List (PK × Int)} (hp : m'.Perm m) (h : Nd m) : Nd m' := by
  unfold Nd at *
  exact ((hp.map _).nodup_iff).2 h
theorem perm_al {m m' : List (PK × Int)} (hp : m'.Perm m) (h : Al m) : Al m' := fun x hx => h x (hp.mem_iff.1 hx)
theorem flat_one (f : PK × Int → List Value) (L : List (PK × Int)) (x : PK × Int) : L.flatMap f ++ f x = (L ++ [x]).flatMap f := by simp
theorem row_more {w : World} {B : Nat} {e : TypeId} {sz : Nat} {v : Value} {L : List (PK × Int)} {f : PK × Int → List Value} {x : PK × Int} {ys : List Value} (h : w.ownsRow B e sz v (L.length + 1) (L.flatMap f ++ ys)) (e1 : ys = f x) : w.ownsRow B e sz v (L ++ [x]).length ((L ++ [x]).flatMap f) := by
  subst e1
  rw [flat_one] at h
  rw [List.length_append, List.length_singleton]
  exact h

/-- the row of the other kind, behind an append -/
theorem n_keep {w w5 wa : World} {D : Nat} {e e' : TypeId} {sz sz' n n' : Nat} {v v' : Value} {xs xs' : List Value} (hN : w.ownsRow D e sz v n xs) (hP : w.ownsRow D e' sz' v' n' xs') (hne : e' ≠ e) (hb : Below w.heap.size w wa) (hg : wa.grownBy w5 v'.ownBlock) : w5.ownsRow D e sz v n xs :=
  own_keep hN fun k ek => by
    have hl := (hN.lt k ek).2
    rw [hg.block k (Nat.lt_of_lt_of_le hl hb.size) (fun h => own_not_own hP hN hne h.symm ek)]
    exact hb.block k hl
theorem b_grow {D : Nat} {w0 w wa w5 : World} {ob : Option Nat} (h : Below D w0 w) (hD : D ≤ w.heap.size) (hb : Below w.heap.size w wa) (hg : wa.grownBy w5 ob) (hr : ∀ k, ob = some k → D ≤ k) : Below D w0 w5 :=
  (h.trans (hb.mono hD)).grown hg (Nat.le_trans hD hb.size) hr
theorem b_one (w : World) (o : Obj) : Below w.heap.size w (w.alloc o) := (Below.refl _ _).alloc (Nat.le_refl _) o
theorem b_two (w : World) (o o' : Obj) : Below w.heap.size w ((w.alloc o).alloc o') := (b_one w o).alloc (by simp) o'
theorem news_in {w : World} {b : Nat} {cs : Array Value} {t : TypeId} {fz : Nat × Nat} (h : w.heap[b]? = some (.cells cs t fz)) : ∀ j u, cs.toList[j]? = some u → w.cell? ((⟨b, 0, none⟩ : Addr).add j) = some u := by
  intro j u hu
  rw [addr_add, Nat.zero_add, cell_at h]
  simpa using hu

structure SetW (B bx : Nat) (w0 W : World) (b o : Nat) (arr : Array Value) (t : TypeId) (pv nv : Value) (m : List (PK × Int)) (p1 p2 : Int) (ov mv : Value) (L : List (PK × Int)) : Prop where
  hP : W.ownsRow w0.heap.size 41 2 ov L.length (L.flatMap encK)
  hN : W.ownsRow w0.heap.size 3 1 mv L.length (L.flatMap encN)
  hbw : Below w0.heap.size w0 W
  h1 : RC B W b o arr t pv nv m
  x1 : W.heap[bx]? = some (.cells #[.int .i64 p1, .int .i64 p2] 41)
theorem SetW.drewN {B bx : Nat} {w0 W : World} {b o : Nat} {arr : Array Value} {t : TypeId} {pv nv : Value} {m : List (PK × Int)} {p1 p2 : Int} {ov mv : Value} {L : List (PK × Int)} (h : SetW B bx w0 W b o arr t pv nv m p1 p2 ov mv L) (n : Nat) : SetW B bx w0 (W.drewN n) b o arr t pv nv m p1 p2 ov mv L :=
  ⟨h.hP, h.hN, h.hbw.trans (bdrew _ _ _), h.h1.below (bdrew _ _ _), h.x1⟩
theorem SetW.below {B bx : Nat} {w0 W W' : World} {b o : Nat} {arr : Array Value} {t : TypeId} {pv nv : Value} {m : List (PK × Int)} {p1 p2 : Int} {ov mv : Value} {L : List (PK × Int)} (h : SetW B bx w0 W b o arr t pv nv m p1 p2 ov mv L) (hb : Below W.heap.size W W') : SetW B bx w0 W' b o arr t pv nv m p1 p2 ov mv L :=
  ⟨own_keep h.hP (fun k e => hb.block k (h.hP.lt k e).2), own_keep h.hN (fun k e => hb.block k (h.hN.lt k e).2), h.hbw.trans (hb.mono h.hbw.size), h.h1.below hb, (hb.block _ (block_lt h.x1)).trans h.x1⟩
theorem own_sl {w : World} {D n : Nat} {e : TypeId} {sz : Nat} {v : Value} {xs : List Value} (h : w.ownsRow D e sz v n xs) : ∃ A c, v = .slice A n c := by
  rcases h.2 with ⟨rfl, h0⟩ | ⟨g, cap, cur, rfl, _⟩
  · exact ⟨none, 0, by rw [h0]⟩
  · exact ⟨_, _, rfl⟩

set_option hygiene false in
macro "set_facts" : tactic => `(tactic| (
  obtain ⟨hP, hN, hbw, h1, x1⟩ := hW
  have cp := h1.cp
  have cn := h1.cn
  have f0 := frozen_at h1.blk o
  have f1 := frozen_at h1.blk (o + 1)
  have d0 := cell_at x1 0
  have d1 := cell_at x1 1
  simp only [List.getElem?_toArray, List.getElem?_cons_zero, List.getElem?_cons_succ] at d0 d1
  have hll := HS.out.len
  have hz : w0.heap.size ≤ wr.heap.size := hbw.size
  have H1 := Lib.hid h1
  clear h1))
set_option hygiene false in
macro "set_draw" : tactic => `(tactic| (
  have hW := SetW.drewN (b := b) (o := o) (ov := .slice Ao L.length co) (mv := .slice An L.length cn0) ⟨hP, hN, hbw, H1.out, x1⟩ nq
  clear hP hN hbw x1 cp cn f0 f1 d0 d1 H1 hz
  generalize wr.drewN nq = wr at *
  set_facts))
set_option hygiene false in
macro "set_elt" : tactic => `(tactic| (
  obtain ⟨ad, c2, e, _, y0, y1⟩ := own_at encK_len H1.out.rp (by omega) HX.out
  cases e
  obtain ⟨ad2, c3, e, _, z0, _⟩ := own_at encN_len H1.out.rn (by omega) HX.out
  cases e
  have y0 := y0 _ rfl
  have y1 := y1 1 _ rfl
  have z0 := z0 _ rfl
  rw [Nat.mul_one] at z0))
set_option hygiene false in
macro "set_ins" : tactic => `(tactic| (
  go_wp2_with (first
    | (at_builtin; refine wpList_append_own_at _ rfl _ _ 31 rfl w0.heap.size 41 iP _ 2 16 Try.underlying31 hiP zP0 zP1 zP2 rfl (by decide) _ _ _ rfl (hP.alloc _) ⟨wr.heap.size, 0, none⟩ 1 1 [.int .i64 p1, .int .i64 p2] rfl rfl (news_alloc rfl) (by simp [Value.oneCell']) (by unfold maxLen; omega) (by omega) (by simp; omega) ?_; intro ov2 w2 hP2 hg2 _ hat2; have hN2 := n_keep hN hP (by decide) (b_one _ _) hg2; have hb2 : Below w0.heap.size w0 w2 := b_grow hbw hbw.size (b_one _ _) hg2 (fun k hk => (hP.lt k hk).1); have hs2 := hb2.size)
    | (at_builtin; refine wpList_append_own_at _ rfl _ _ 32 rfl w0.heap.size 3 iN _ 1 8 Try.underlying32 hiN zN0 zN1 zN2 rfl (by decide) _ _ _ rfl (hN2.alloc _) ⟨w2.heap.size, 0, none⟩ 1 1 [.int .i64 n] rfl rfl (news_alloc rfl) (by simp [Value.oneCell']) (by unfold maxLen; omega) (by omega) (by simp; omega) ?_; intro mv2 w3 hN3 hg3 _ hat3; have hP3 := n_keep hP2 hN2 (by decide) (b_one _ _) hg3; have hb3 : Below w0.heap.size w0 w3 := b_grow hb2 hb2.size (b_one _ _) hg3 (fun k hk => (hN2.lt k hk).1)))
  have hl3 : ∀ k, k < w0.heap.size → w3.heap[k]? = wr.heap[k]? := fun k hk => (hb3.block k hk).trans (hbw.block k hk).symm
  have hd0 : w.heap.size < w0.heap.size := block_lt x0
  have hW := SetW.mk (L := L ++ [((p1, p2), n)]) (row_more hP3 rfl) (row_more hN3 rfl) hb3 (H0.out.below hb3) ((hl3 _ hd0).trans x1)
  clear hl3 hd0
  have HS := Lib.hid HS.out.put
  clear hP hN hP2 hN2 hP3 hN3 hg2 hg3 hat2 hat3 hb2 hb3 hs2 hbw x1 cp cn f0 f1 d0 d1 H1 hll hz
  generalize L ++ [((p1, p2), n)] = L at *
  generalize w3 = wr at *
  obtain ⟨Ao, co, rfl⟩ := own_sl hW.hP
  obtain ⟨An, cn0, rfl⟩ := own_sl hW.hN
  set_facts))

theorem news_fst {w : World} {o : Obj} {cs : Array Value} {t : TypeId} : ∀ j u, cs.toList[j]? = some u → ((w.alloc (.cells cs t)).alloc o).drew.cell? ((⟨w.heap.size, 0, none⟩ : Addr).add j) = some u :=
  news_in (w := ((w.alloc (.cells cs t)).alloc o).drew) (fz := (0, 0)) (alloc_blk (heap_alloc_new w _))
theorem news_snd {w : World} {o : Obj} {cs : Array Value} {t : TypeId} : ∀ j u, cs.toList[j]? = some u → ((w.alloc o).alloc (.cells cs t)).drew.cell? ((⟨w.heap.size + 1, 0, none⟩ : Addr).add j) = some u := by
  have h : ((w.alloc o).alloc (.cells cs t)).heap[w.heap.size + 1]? = some (.cells cs t (0, 0)) := by
    have := heap_alloc_new (w.alloc o) (.cells cs t)
    simpa using this
  exact news_in (w := ((w.alloc o).alloc (.cells cs t)).drew) (fz := (0, 0)) h
theorem news_two {w w5 : World} {o : Obj} {cs : Array Value} {t : TypeId} {ob : Option Nat} (hg : ((w.alloc o).alloc (.cells cs t)).drew.grownBy w5 ob) (hr : ∀ k, ob = some k → k < w.heap.size) : ∀ j u, cs.toList[j]? = some u → w5.cell? ((⟨w.heap.size + 1, 0, none⟩ : Addr).add j) = some u := by
  have h : ((w.alloc o).alloc (.cells cs t)).heap[w.heap.size + 1]? = some (.cells cs t (0, 0)) := by
    have := heap_alloc_new (w.alloc o) (.cells cs t)
    simpa using this
  exact news_in (grown_blk hg (w := ((w.alloc o).alloc (.cells cs t)).drew) h (fun e => by have := hr _ e.symm; omega))
theorem news_one {w w5 : World} {o : Obj} {cs : Array Value} {t : TypeId} {ob : Option Nat} (hg : ((w.alloc (.cells cs t)).alloc o).drew.grownBy w5 ob) (hr : ∀ k, ob = some k → k < w.heap.size) : ∀ j u, cs.toList[j]? = some u → w5.cell? ((⟨w.heap.size, 0, none⟩ : Addr).add j) = some u := by
  have h : ((w.alloc (.cells cs t)).alloc o).heap[w.heap.size]? = some (.cells cs t (0, 0)) := alloc_blk (heap_alloc_new w _)
  exact news_in (grown_blk hg (w := ((w.alloc (.cells cs t)).alloc o).drew) h (fun e => by have := hr _ e.symm; omega))

theorem row_base {w : World} {B B' : Nat} {e : TypeId} {sz n : Nat} {v : Value} {xs : List Value} (h : w.ownsRow B e sz v n xs) (hB : B' ≤ B) : w.ownsRow B' e sz v n xs := by
  obtain ⟨q1, q2⟩ := h
  refine ⟨q1, ?_⟩
  rcases q2 with q2 | ⟨g, cap, cur, e, hb, q⟩
  · exact .inl q2
  · exact .inr ⟨g, cap, cur, e, by omega, q⟩
/-- the end: the two new rows are laid into the block -/
theorem set_last {B : Nat} {w w0 wr : World} {b o : Nat} {arr : Array Value} {t : TypeId} {pv nv ov mv : Value} {m L : List (PK × Int)} {p : PK} {n : Int} {i : Nat} {d : Bool} (h0 : RC B w b o arr t pv nv m) (hB : B ≤ w.heap.size) (hb0 : Below w.heap.size w w0)
    (hP : wr.ownsRow w0.heap.size 41 2 ov L.length (L.flatMap encK)) (hN : wr.ownsRow w0.heap.size 3 1 mv L.length (L.flatMap encN)) (hbw : Below w0.heap.size w0 wr) (hS : SetI m p n i d L) (hi : m.length < i) (hsm : m.length < 1000) (hp : P64 p) (hn : In64 n) :
    RC B ((wr.setCell ⟨b, o, none⟩ ov).setCell ⟨b, o + 1, none⟩ mv) b o ((arr.setIfInBounds o ov).setIfInBounds (o + 1) mv) t ov mv L ∧ SetR m p n L ∧ Upd (CFoot b pv nv) (CFoot b ov mv) w ((wr.setCell ⟨b, o, none⟩ ov).setCell ⟨b, o + 1, none⟩ mv) := by
  have hr := hS.done hi
  have hlb := block_lt h0.blk
  have hsz := hb0.size
  have h1 : wr.heap[b]? = some (.cells arr t (0, 0)) := ((hbw.block b (by omega)).trans (hb0.block b hlb)).trans h0.blk
  have oa := (Array.getElem?_eq_some_iff.1 h0.ap).1
  have ob := (Array.getElem?_eq_some_iff.1 h0.an).1
  have hk : ∀ k, k ≠ b → ((wr.setCell ⟨b, o, none⟩ ov).setCell ⟨b, o + 1, none⟩ mv).heap[k]? = wr.heap[k]? := fun k hk => (set_blk_eq hk).trans (set_blk_eq hk)
  have hr2 := hr
  unfold SetR at hr2
  refine ⟨⟨set_at (set_at h1 o ov) (o + 1) mv, by simp [oa], by simp [ob], h0.tp, h0.tn, own_keep (row_base hP (by omega)) (fun k e => hk k (by have := (hP.lt k e).1; omega)), own_keep (row_base hN (by omega)) (fun k e => hk k (by have := (hN.lt k e).1; omega)), ?_, ?_, ?_⟩, hr, ?_⟩
  · have := hS.len
    omega
  · refine perm_al hr2 ?_
    split
    · exact h0.al.drop p
    · exact h0.al.put hp hn
  · refine perm_nd hr2 ?_
    split
    · exact h0.nd.drop p
    · exact h0.nd.put p n
  · have hu : Upd (CFoot b pv nv) (CFoot b pv nv) w wr := Upd.of_below (hb0.trans (hbw.mono hsz))
    refine ((hu.trans (Upd.set (p := ⟨b, o, none⟩) (.inl rfl))).trans (Upd.set (p := ⟨b, o + 1, none⟩) (.inl rfl))).foot ?_
    rintro k (rfl | h1 | h1)
    · exact .inl (.inl rfl)
    · exact .inr (by have := (hP.lt k h1).1; omega)
    · exact .inr (by have := (hN.lt k h1).1; omega)

set_option hygiene false in
macro "set_tail" : tactic => `(tactic| (
  set_elt
  by_cases he : (xa, xb) = (p1, p2)
  · have e1 : (xa == p1) = true := by simp at he; simp [he.1]
    have e2 : (xb == p2) = true := by simp at he; simp [he.2]
    have hb : (xa == p1 && (xb == p2)) = true := by rw [e1, e2]; rfl
    have HE := Lib.hid he
    clear he
    go_wp2_with fail
    go_quiet (fail)
    go_wp2_with fail
    go_roundw
    case rel => exact ⟨i + 1, L, _, _, _, by omega, rfl, rfl, rfl, by go_num, ⟨hP, hN, hbw.trans (bdrew _ _ _), H1.out.below (bdrew _ _ _), x1⟩, Lib.hid (HS.out.skip HX.out HE.out)⟩
    case measure => simp [intOf] <;> omega
  · have hb : (xa == p1 && (xb == p2)) = false := by
      cases hc : (xa == p1 && (xb == p2)) with
      | false => rfl
      | true => simp at hc; exact absurd (by rw [hc.1, hc.2]) he
    have HE := Lib.hid he
    clear he
    go_wp2_with fail
    go_quiet (fail)
    clear y0 y1 z0
    set_draw
    set_elt
    go_wp2_with fail
    obtain ⟨_, _, e, _, zq, _⟩ := own_at encN_len H0.out.rn (by omega) HX.out
    cases e
    have hkn := World.block_lt_of_cell? w0 _ (zq _ rfl)
    rw [Nat.mul_one] at hkn
    clear zq
    have cnA : ∀ O, (wr.alloc O).cell? ⟨b, o + 1, none⟩ = some (.slice (some ad2) m.length cap2) := fun O => ((b_one wr O).cell (World.block_lt_of_cell? wr _ cn)).trans cn
    have cpA : ∀ O, (wr.alloc O).cell? ⟨b, o, none⟩ = some (.slice (some ad) m.length cap) := fun O => ((b_one wr O).cell (World.block_lt_of_cell? wr _ cp)).trans cp
    have yA0 : ∀ O, (wr.alloc O).cell? (ad.add (i * 2)) = some (.int .i64 xa) := fun O => ((b_one wr O).cell (World.block_lt_of_cell? wr _ y0)).trans y0
    have yA1 : ∀ O, (wr.alloc O).cell? ⟨(ad.add (i * 2)).block, (ad.add (i * 2)).off + 1, none⟩ = some (.int .i64 xb) := fun O => ((b_one wr O).cell (World.block_lt_of_cell? wr _ y1)).trans y1
    have zA : ∀ O, (wr.alloc O).cell? (ad2.add i) = some (.int .i64 xn) := fun O => ((b_one wr O).cell (World.block_lt_of_cell? wr _ z0)).trans z0
    go_region_law (first
      | (refine step_append_lies _ (by rfl) _ _ _ (by rfl) w0.heap.size 3 iN _ 1 8 Try.underlying32 hiN zN0 zN1 zN2 rfl (by omega) _ L.length _ (by rfl) (by exact hN2.alloc _) ⟨w2.heap.size, 0, none⟩ 1 1 [.int .i64 xn] (by rfl) (by rfl) (by exact news_alloc rfl) (by simp [Value.oneCell']) (by omega) (by unfold maxLen; omega) (by omega) (by first | omega | (simp; omega)) (w2.heap.size + 1) (by first | rfl | simp) ?_; intro q3 k3 w3 hN3 hg3 hat3 hlt3; have hP3 := n_keep hP2 hN2 (by decide) (b_one _ _) hg3; have hb3 : Below w0.heap.size w0 w3 := b_grow hb2 hb2.size (b_one _ _) hg3 (fun k hk => (hN2.lt k hk).1))
      | (refine step_append_lies _ (by rfl) _ _ _ (by rfl) w0.heap.size 3 iN _ 1 8 Try.underlying32 hiN zN0 zN1 zN2 rfl (by omega) _ L.length _ (by rfl) (by exact hN2) ⟨wr.heap.size + 1, 0, none⟩ 1 1 [.int .i64 xn] (by rfl) (by rfl) (by exact NW) (by simp [Value.oneCell']) (by omega) (by unfold maxLen; omega) (by omega) (by first | omega | (simp; omega)) (w2.heap.size) (by first | rfl | simp) ?_; intro q3 k3 w3 hN3 hg3 hat3 hlt3; have hP3 := n_keep hP2 hN2 (by decide) (Below.refl _ _) hg3; have hb3 : Below w0.heap.size w0 w3 := b_grow hb2 hb2.size (Below.refl _ _) hg3 (fun k hk => (hN2.lt k hk).1))
      | (refine step_append_lies _ (by rfl) _ _ _ (by rfl) w0.heap.size 3 iN _ 1 8 Try.underlying32 hiN zN0 zN1 zN2 rfl (by omega) _ L.length _ (by rfl) (by exact hN2) ⟨wr.heap.size, 0, none⟩ 1 1 [.int .i64 xn] (by rfl) (by rfl) (by exact NW) (by simp [Value.oneCell']) (by omega) (by unfold maxLen; omega) (by omega) (by first | omega | (simp; omega)) (w2.heap.size) (by first | rfl | simp) ?_; intro q3 k3 w3 hN3 hg3 hat3 hlt3; have hP3 := n_keep hP2 hN2 (by decide) (Below.refl _ _) hg3; have hb3 : Below w0.heap.size w0 w3 := b_grow hb2 hb2.size (Below.refl _ _) hg3 (fun k hk => (hN2.lt k hk).1))
      | (refine step_append_lies _ (by rfl) _ _ _ (by rfl) w0.heap.size 41 iP _ 2 16 Try.underlying31 hiP zP0 zP1 zP2 rfl (by omega) _ L.length _ (by rfl) (by exact (hP.alloc _).drew) ⟨wr.heap.size, 0, none⟩ 1 1 [.int .i64 xa, .int .i64 xb] (by rfl) (by rfl) (by exact news_alloc rfl) (by simp [Value.oneCell']) (by omega) (by unfold maxLen; omega) (by omega) (by simp; omega) (wr.heap.size + 1) (by simp) ?_; intro q2 k2 w2 hP2 hg2 hat2 hlt2; have hN2 := n_keep hN hP (by decide) ((b_one _ _).drew) hg2; have hb2 : Below w0.heap.size w0 w2 := b_grow hbw hbw.size ((b_one _ _).drew) hg2 (fun k hk => (hP.lt k hk).1); have hs2 := hb2.size; have cn2 := (H0.out.below hb2).cn; have z2 := ((hb2.cell (p := ad2.add i) hkn).trans (hbw.cell (p := ad2.add i) hkn).symm).trans z0)
      | (refine step_append_lies _ (by rfl) _ _ _ (by rfl) w0.heap.size 41 iP _ 2 16 Try.underlying31 hiP zP0 zP1 zP2 rfl (by omega) _ L.length _ (by rfl) (by exact ((hP.alloc _).alloc _).drew) ⟨wr.heap.size, 0, none⟩ 1 1 [.int .i64 xa, .int .i64 xb] (by rfl) (by rfl) (by exact news_fst) (by simp [Value.oneCell']) (by omega) (by unfold maxLen; omega) (by omega) (by simp; omega) (wr.heap.size + 2) (by simp) ?_; intro q2 k2 w2 hP2 hg2 hat2 hlt2; have hN2 := n_keep hN hP (by decide) ((b_two _ _ _).drew) hg2; have hb2 : Below w0.heap.size w0 w2 := b_grow hbw hbw.size ((b_two _ _ _).drew) hg2 (fun k hk => (hP.lt k hk).1); have hs2 := hb2.size; have cn2 := (H0.out.below hb2).cn; have z2 := ((hb2.cell (p := ad2.add i) hkn).trans (hbw.cell (p := ad2.add i) hkn).symm).trans z0; have NW := news_two hg2 (fun k hk => (hP.lt k hk).2))
      | (refine step_append_lies _ (by rfl) _ _ _ (by rfl) w0.heap.size 41 iP _ 2 16 Try.underlying31 hiP zP0 zP1 zP2 rfl (by omega) _ L.length _ (by rfl) (by exact ((hP.alloc _).alloc _).drew) ⟨wr.heap.size + 1, 0, none⟩ 1 1 [.int .i64 xa, .int .i64 xb] (by rfl) (by rfl) (by exact news_snd) (by simp [Value.oneCell']) (by omega) (by unfold maxLen; omega) (by omega) (by simp; omega) (wr.heap.size + 2) (by simp) ?_; intro q2 k2 w2 hP2 hg2 hat2 hlt2; have hN2 := n_keep hN hP (by decide) ((b_two _ _ _).drew) hg2; have hb2 : Below w0.heap.size w0 w2 := b_grow hbw hbw.size ((b_two _ _ _).drew) hg2 (fun k hk => (hP.lt k hk).1); have hs2 := hb2.size; have cn2 := (H0.out.below hb2).cn; have z2 := ((hb2.cell (p := ad2.add i) hkn).trans (hbw.cell (p := ad2.add i) hkn).symm).trans z0; have NW := news_one hg2 (fun k hk => (hP.lt k hk).2)))
    all_goals
      go_wp2_with fail
      go_roundw
      case rel => exact ⟨i + 1, L ++ [((xa, xb), xn)], _, _, _, by omega, rfl, rfl, rfl, by go_num, ⟨row_more hP3 rfl, row_more hN3 rfl, hb3, H0.out.below hb3, (hb3.block _ (block_lt x0)).trans x0⟩, Lib.hid (HS.out.more HX.out HE.out)⟩
      case measure => simp [intOf] <;> omega))

set_option maxHeartbeats 16000000 in
set_option maxRecDepth 100000 in
theorem set_any {B : Nat} {w : World} {b o : Nat} {arr : Array Value} {t : TypeId} {pv nv : Value} {m : List (PK × Int)} (h : RC B w b o arr t pv nv m) (hB : B ≤ w.heap.size) (hsm : m.length < 1000) (p : PK) (n : Int) (hp : P64 p) (hn : In64 n) :
    Calls Try.prog 60 #[.pointer (some ⟨b, o, none⟩), vP p, .int .i64 n] w fun e w' => e = .returned (.tuple #[]) ∧ ∃ pv' nv' m', RC B w' b o ((arr.setIfInBounds o pv').setIfInBounds (o + 1) nv') t pv' nv' m' ∧ SetR m p n m' ∧ Upd (CFoot b pv nv) (CFoot b pv' nv') w w' := by
  obtain ⟨p1, p2⟩ := p
  obtain ⟨iP, hiP, zP0, zP1, zP2⟩ := info_parts infoP
  obtain ⟨iN, hiN, zN0, zN1, zN2⟩ := info_parts infoN
  have b0 : Below w.heap.size w (w.alloc (.cells #[.int .i64 p1, .int .i64 p2] 41)) := (Below.refl _ _).alloc (Nat.le_refl _) _
  have x0 := heap_alloc_new w (.cells #[.int .i64 p1, .int .i64 p2] 41)
  have h0 := h.below b0
  obtain ⟨A, cap, rfl⟩ := h.ps
  obtain ⟨A2, cap2, rfl⟩ := h.ns
  have HH := Lib.hid h
  have H0 := Lib.hid h0
  have HP64 := Lib.hid hp
  have HN64 := Lib.hid hn
  clear h h0 hp hn
  unfold vP
  go_enter Try.func60, Try.ntmps60
  go_wp2_with fail
  have hge : w.heap.size ≤ (w.alloc (.cells #[.int .i64 p1, .int .i64 p2] 41)).heap.size := b0.size
  generalize w.alloc (.cells #[.int .i64 p1, .int .i64 p2] 41) = w0 at *
  go_loopw [6, 7, 8, 9] (fun v6 v7 v8 v9 wr => ∃ (i : Nat) (L : List (PK × Int)) (d : Bool) (ov mv : Value), i ≤ m.length + 1 ∧ ov = v6 ∧ mv = v7 ∧ v8 = .bool d ∧ v9 = .int .i64 (i : Int) ∧ SetW B w.heap.size w0 wr b o arr t (.slice A m.length cap) (.slice A2 m.length cap2) m p1 p2 ov mv L ∧ Hid (SetI m (p1, p2) n i d L)) (fun _ _ _ i _ => m.length + 2 - (intOf i).toNat)
  case atStart =>
    refine ⟨0, [], n == 0, _, _, by omega, rfl, rfl, rfl, rfl, ⟨World.ownsRow_nil _ _ _ _, World.ownsRow_nil _ _ _ _, Below.refl _ _, H0.out, x0⟩, Lib.hid ⟨?_, fun h0 => by simpa using h0, fun hh => by omega⟩⟩
    · by_cases h0 : n = 0
      · simp [insL, dropL, h0]
      · simp [insL, dropL, h0]
  case round =>
    obtain ⟨i, L, d, ov, mv, hi, rfl, rfl, rfl, rfl, hW, HS⟩ := hrel
    obtain ⟨Ao, co, rfl⟩ := own_sl hW.hP
    obtain ⟨An, cn0, rfl⟩ := own_sl hW.hN
    set_facts
    by_cases hend : i = m.length + 1
    · have hgt : (m.length : Int) < (i : Int) := by omega
      have HEND := Lib.hid hend
      clear hend
      go_wp2_with fail
      go_end0
      exact ⟨rfl, _, _, _, set_last HH.out hB b0 hP hN hbw HS.out (by omega) hsm HP64.out HN64.out⟩
    · have hle : (i : Int) ≤ (m.length : Int) := by omega
      clear hend
      by_cases hlm : i = m.length
      · subst hlm
        have hnlt : ¬ (m.length : Int) < (m.length : Int) := by omega
        by_cases hd : d = true
        · subst hd
          go_wp2_with fail
          go_quiet (fail)
          go_wp2_with fail
          go_quiet (fail)
          go_wp2_with fail
          go_roundw
          case rel => exact ⟨m.length + 1, L, true, _, _, by omega, rfl, rfl, rfl, by go_num, ⟨hP, hN, hbw.trans (bdrew _ _ _), H1.out.below (bdrew _ _ _), x1⟩, Lib.hid (HS.out.over)⟩
          case measure => simp [intOf] <;> omega
        · obtain rfl : d = false := by simpa using hd
          clear hd
          go_wp2_with fail
          go_quiet (fail)
          set_draw
          set_ins
          go_quiet (fail)
          go_wp2_with fail
          go_roundw
          case rel => exact ⟨m.length + 1, L, true, _, _, by omega, rfl, rfl, rfl, by go_num, ⟨hP, hN, hbw.trans (bdrew _ _ _), H1.out.below (bdrew _ _ _), x1⟩, Lib.hid (HS.out.over)⟩
          case measure => simp [intOf] <;> omega
      · have hlt : i < m.length := by omega
        clear hlm
        have hx := List.getElem?_eq_getElem hlt
        generalize m[i] = x at hx
        obtain ⟨⟨xa, xb⟩, xn⟩ := x
        have HX := Lib.hid hx
        clear hx
        have hne : ((i : Int) == (m.length : Int)) = false := by simp; omega
        have klt : (i : Int) < (m.length : Int) := by omega
        set_elt
        have hcall := fun W => before_any W (xa, xb) (p1, p2)
        generalize befB (xa, xb) (p1, p2) = bb at hcall
        go_upto_region 7 with fail
        go_cut [43] from 12 to 89 (fun v43 wx => ∃ b43 : Bool, v43 = .bool b43 ∧ Hid (b43 = true → d = false) ∧ SetW B w.heap.size w0 wx b o arr t (.slice (some ad) m.length cap) (.slice (some ad2) m.length cap2) m p1 p2 (.slice Ao L.length co) (.slice An L.length cn0) L)
        case first =>
          by_cases hd : d = true
          · subst hd
            go_wp2_with fail
            go_quiet (fail)
            go_wp2_with fail
            go_meet
            exact ⟨false, rfl, Lib.hid (fun h => nomatch h), SetW.drewN ⟨hP, hN, hbw, H1.out, x1⟩ _⟩
          · obtain rfl : d = false := by simpa using hd
            clear hd
            go_wp2_with fail
            have gcp := fun g => Ext.cell (u := .slice (some ad) m.length cap) cp g
            have g0 := fun g => Ext.cell (u := .int .i64 xa) y0 g
            have g1 := fun g => Ext.cell (u := .int .i64 xb) y1 g
            have g2 := fun g => Ext.cell (u := .int .i64 p1) d0 g
            have g3 := fun g => Ext.cell (u := .int .i64 p2) d1 g
            refine wp_region_ext (by kernel_rfl) (by kernel_rfl) ?_
            repeat (quiet_step (first
              | (go_at_call 80; exact ext_of (hcall _))))
            refine wpQuiet_nil ?_
            rintro w3 ⟨⟨_, b3⟩, rfl⟩
            go_wp2_with fail
            go_meet
            exact ⟨!bb, rfl, Lib.hid (by intro _; trivial), SetW.below ⟨hP, hN, hbw, H1.out, x1⟩ b3⟩
        case rest =>
          clear hP hN hbw x1 cp cn f0 f1 d0 d1 H1 hz y0 y1 z0
          obtain ⟨b43, rfl, HB, hW⟩ := hcut
          generalize wc = wr at *
          set_facts
          go_upto_if 43 with fail
          go_cut [6, 7, 8] from 12 to 89 (fun v6 v7 v8 wx => ∃ (L' : List (PK × Int)) (d' : Bool) (ov mv : Value), ov = v6 ∧ mv = v7 ∧ v8 = .bool d' ∧ SetW B w.heap.size w0 wx b o arr t (.slice (some ad) m.length cap) (.slice (some ad2) m.length cap2) m p1 p2 ov mv L' ∧ Hid (SetI m (p1, p2) n i d' L'))
          case first =>
            cases b43
            · go_wp2_with fail
              go_meet
              exact ⟨L, d, _, _, rfl, rfl, rfl, ⟨hP, hN, hbw, H1.out, x1⟩, HS⟩
            · obtain rfl := HB.out rfl
              set_ins
              go_meet
              exact ⟨L, true, _, _, rfl, rfl, rfl, ⟨hP, hN, hbw, H1.out, x1⟩, HS⟩
          case rest =>
            clear hP hN hbw x1 cp cn f0 f1 d0 d1 H1 hz HS hll HB
            obtain ⟨L, d, ov, mv, rfl, rfl, rfl, hW, HS⟩ := hcut
            obtain ⟨Ao, co, rfl⟩ := own_sl hW.hP
            obtain ⟨An, cn0, rfl⟩ := own_sl hW.hN
            generalize wc = wr at *
            set_facts
            set_tail
end Go.Proofs.Ythpdamkpefgmaaa.RefCnt
