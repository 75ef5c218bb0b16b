/- DeltaApplies: any changes, applied at once behind any deeds, leave what the document says, and tell the pairs whose counts are others, or the error. No condition. -/
import Derived.Test.YtaecngdabgnamaaRefAdd
import Derived.Test.YtaecngdabgnamaaDeltaNone
import Derived.Test.YtaecngdabgnamaaKindsDelta
import Derived.Test.YtaecngdabgnamaaPairsEq
import Derived.Test.YtaecngdabgnamaaMShut
import Derived.Lib.SmallJoins
namespace Go.Proofs.Ytaecngdabgnamaa.DeltaApplies
open Go.RowKit Go.Maps Go.ChangeShapes Go.WideShapes Go.Deep Go.Proofs.YtaecngdabgnamaaW.PrintWords Go.Proofs.YtaecngdabgnamaaW.PrintLast Go.Proofs.YtaecngdabgnamaaW.PrintMore Base Foot ExtTail PMap DMath Delta Kinds RefCnt Src
set_option linter.unusedVariables false
set_option linter.unusedSimpArgs false
attribute [local go_sem ↓] Go.wp_at_zero Go.wp_at_succ

theorem buildR (w : World) : (Instr.build 53 #[]).run Try.prog w = .ok (.agg #[.slice none 0 0, .slice none 0 0]) w := run_build w _ _ _ (by kernel_rfl)
attribute [-go_sem] Instr.build
attribute [local go_sem high] buildR
attribute [local go_sem] bne_self_eq_false

theorem resP {m m' : List (PK × Int)} (hd : Nd m) (hp : m'.Perm m) (p : PK) : res m' p = res m p := by unfold res; rw [look_perm hd hp]
theorem rget_any {B : Nat} {w : World} {b : Nat} {pv nv : Value} {m : List (PK × Int)} (h : RT B w b pv nv m) (p : PK) :
    Calls Try.prog 26 #[.pointer (some ⟨b, 0, none⟩), vP p] w fun e w' => e = .returned (.int .i64 (res m p)) ∧ Below w.heap.size w w' := RefCnt.get_any h p
theorem addE_perm {m m' : List (PK × Int)} (hd : Nd m) (hp : m'.Perm m) (p : PK) (b t : Int) : (addE m' p b t).1 = (addE m p b t).1 ∧ (addE m' p b t).2.Perm (addE m p b t).2 := by
  have hr : res m' p = res m p := resP hd hp p
  unfold addE
  rw [hr]
  split
  · exact ⟨rfl, hp⟩
  · split
    · exact ⟨rfl, hp⟩
    · refine ⟨rfl, ?_⟩
      unfold setL
      split
      · exact hp.filter _
      · exact (hp.filter _).cons _
theorem cd_apart {W : World} {B bd bt : Nat} {mv pv nv : Value} {m m' : List (PK × Int)} (h : DT W bd mv m) (hr : RT B W bt pv nv m') : ∀ k, CFoot bt pv nv k → ¬ DFoot bd mv k := by
  rintro k (rfl | hk | hk)
  · exact h.not_cells hr.blk (by decide)
  · rcases hr.rp.2 with ⟨rfl, _⟩ | ⟨g, cap, cur, rfl, _, hg, _⟩
    · cases hk
    · cases hk; exact h.not_cells hg (by decide)
  · rcases hr.rn.2 with ⟨rfl, _⟩ | ⟨g, cap, cur, rfl, _, hg, _⟩
    · cases hk
    · cases hk; exact h.not_cells hg (by decide)
theorem rt_ge {B : Nat} {W : World} {bt : Nat} {pv nv : Value} {m : List (PK × Int)} (h : RT B W bt pv nv m) (hb : B ≤ bt) : ∀ k, CFoot bt pv nv k → B ≤ k := by
  rintro k (rfl | hk | hk)
  · exact hb
  · exact (h.rp.lt k hk).1
  · exact (h.rn.lt k hk).1
theorem rt_len {B : Nat} {W : World} {bt : Nat} {pv nv : Value} {m m' : List (PK × Int)} (h : RT B W bt pv nv m) (hp : m.Perm m') (hd : Nd m') (p : PK) (hb : ∀ p, 0 ≤ res m' p ∧ res m' p ≤ 9223372036854775807) : 0 ≤ res m p ∧ res m p ≤ 9223372036854775807 := by
  rw [resP hd hp]; exact hb p
/-- the program's counts, and two of the document's -/
structure S3 (B : Nat) (w W : World) (bd bx bw : Nat) (mv px nx pw nw : Value) (m mx mw : List (PK × Int)) : Prop where
  dt : DT W bd mv m
  rx : RT B W bx px nx mx
  rw : RT B W bw pw nw mw
  ap : ∀ k, CFoot bw pw nw k → ¬ CFoot bx px nx k
  gd : ∀ k, DFoot bd mv k → B ≤ k
  gx : B ≤ bx
  gw : B ≤ bw
  hB : w.heap.size ≤ B
  hBW : B ≤ W.heap.size
  bel : Below w.heap.size w W
section
variable {B : Nat} {w W W1 : World} {bd bx bw : Nat} {mv px nx pw nw : Value} {m mx mw : List (PK × Int)} (h : S3 B w W bd bx bw mv px nx pw nw m mx mw)
include h
theorem S3.below (hb : Below W.heap.size W W1) : S3 B w W1 bd bx bw mv px nx pw nw m mx mw :=
  ⟨h.dt.below hb, h.rx.below hb, h.rw.below hb, h.ap, h.gd, h.gx, h.gw, h.hB, Nat.le_trans h.hBW hb.size, h.bel.trans (hb.mono h.bel.size)⟩
theorem S3.gX : ∀ k, CFoot bx px nx k → B ≤ k := rt_ge h.rx h.gx
theorem S3.gW : ∀ k, CFoot bw pw nw k → B ≤ k := rt_ge h.rw h.gw
/-- behind a call that writes the program's counts -/
theorem S3.onD {mv1 : Value} {m1 : List (PK × Int)} (h1 : DT W1 bd mv1 m1) (u : Upd (DFoot bd mv) (DFoot bd mv1) W W1) : S3 B w W1 bd bx bw mv1 px nx pw nw m1 mx mw :=
  ⟨h1, h.rx.keep (fun k hk => u.block k (h.rx.lt k hk) (cd_apart h.dt h.rx k hk)), h.rw.keep (fun k hk => u.block k (h.rw.lt k hk) (cd_apart h.dt h.rw k hk)), h.ap,
    foot_ge u h.gd h.hBW, h.gx, h.gw, h.hB, Nat.le_trans h.hBW u.size, h.bel.trans (u.below h.bel.size (fun k hk => Nat.le_trans h.hB (h.gd k hk)))⟩
/-- the first of the document's -/
theorem S3.onX {px1 nx1 : Value} {mx1 : List (PK × Int)} (h1 : RT B W1 bx px1 nx1 mx1) (u : Upd (CFoot bx px nx) (CFoot bx px1 nx1) W W1) : S3 B w W1 bd bx bw mv px1 nx1 pw nw m mx1 mw :=
  ⟨h.dt.keep (fun k hk => u.block k (h.dt.lt k hk) (fun hc => cd_apart h.dt h.rx k hc hk)), h1, h.rw.keep (fun k hk => u.block k (h.rw.lt k hk) (h.ap k hk)), u.apart h.rw.lt h.ap,
    h.gd, h.gx, h.gw, h.hB, Nat.le_trans h.hBW u.size, h.bel.trans (u.below h.bel.size (fun k hk => Nat.le_trans h.hB (h.gX k hk)))⟩
/-- the second -/
theorem S3.onW {pw1 nw1 : Value} {mw1 : List (PK × Int)} (h1 : RT B W1 bw pw1 nw1 mw1) (u : Upd (CFoot bw pw nw) (CFoot bw pw1 nw1) W W1) : S3 B w W1 bd bx bw mv px nx pw1 nw1 m mx mw1 :=
  ⟨h.dt.keep (fun k hk => u.block k (h.dt.lt k hk) (fun hc => cd_apart h.dt h.rw k hc hk)), h.rx.keep (fun k hk => u.block k (h.rx.lt k hk) (fun hc => h.ap k hc hk)), h1, (fun k hw1 hx => u.apart h.rx.lt (fun k hk hc => h.ap k hc hk) k hx hw1),
    h.gd, h.gx, h.gw, h.hB, Nat.le_trans h.hBW u.size, h.bel.trans (u.below h.bel.size (fun k hk => Nat.le_trans h.hB (h.gW k hk)))⟩
end
theorem appE_le : ∀ (l : List (PK × Int)) (m : List (PK × Int)) (t : Int), (appE m l t).2.length ≤ m.length + l.length
  | [], m, t => by simp [appE]
  | x :: l, m, t => by
    rw [appE_one]
    have h2 := addE_le m x.1 x.2 t
    split
    · have := appE_le l (addE m x.1 x.2 t).2 t
      simp only [List.length_cons]
      exact Nat.le_trans this (by omega)
    · simp only [List.length_cons]
      exact Nat.le_trans h2 (by omega)
theorem addE_pos {m : List (PK × Int)} (h : ∀ x ∈ m, 0 < x.2) (p : PK) (b t : Int) : ∀ x ∈ (addE m p b t).2, 0 < x.2 := by
  unfold addE
  split
  · exact h
  · split
    · exact h
    · rename_i r hr
      refine set_pos h ?_
      unfold sumD at hr
      split at hr
      · rename_i hc; cases hr; omega
      · cases hr
theorem addE_nd {m : List (PK × Int)} (h : Nd m) (p : PK) (b t : Int) : Nd (addE m p b t).2 := by
  unfold addE
  split
  · exact h
  · split
    · exact h
    · unfold setL
      split
      · exact h.drop _
      · exact h.put _ _
/-- an error leaves the counts -/
theorem addE_err {m : List (PK × Int)} {p : PK} {b t : Int} (h : (addE m p b t).1 ≠ 0) : (addE m p b t).2 = m := by
  unfold addE at *
  split
  · rfl
  · rename_i h1
    rw [if_neg h1] at h
    cases hs : sumD (res m p) b t with
    | none => rfl
    | some r => rw [hs] at h; exact absurd rfl h
theorem appE_stop {m m1 : List (PK × Int)} {a : List (PK × Int)} {t : Int} (h : appE m a t = (0, m1)) (x : PK × Int) (b : List (PK × Int)) (he : (addE m1 x.1 x.2 t).1 ≠ 0) : appE m (a ++ x :: b) t = addE m1 x.1 x.2 t := by
  rw [appE_app _ _ _ _ h, appE_one, if_neg he]
theorem appE_next {m m1 : List (PK × Int)} {a : List (PK × Int)} {t : Int} (h : appE m a t = (0, m1)) (x : PK × Int) (he : (addE m1 x.1 x.2 t).1 = 0) : appE m (a ++ [x]) t = (0, (addE m1 x.1 x.2 t).2) := by
  rw [appE_app _ _ _ _ h, appE_one, if_pos he]; rfl
theorem split_at {α : Type} {l : List α} {k : Nat} {x : α} (h : l[k]? = some x) : l = l.take k ++ x :: l.drop (k + 1) := by
  obtain ⟨h1, h2⟩ := List.getElem?_eq_some_iff.1 h
  have := List.take_append_drop k l
  rw [List.drop_eq_getElem_cons h1, h2] at this
  exact this.symm
theorem take_at {α : Type} {l : List α} {k : Nat} {x : α} (h : l[k]? = some x) : l.take (k + 1) = l.take k ++ [x] := by
  rw [List.take_add_one, h]; rfl
/-- the pairs that are told -/
def Told (m mn : List (PK × Int)) (l : List (PK × Int)) (mo : List (PK × Int)) : Prop := Nd mo ∧ (∀ x ∈ mo, x.2 = 1) ∧ ∀ p, p ∈ mo.map (·.1) ↔ (∃ x ∈ l, x.1 = p) ∧ res m p ≠ res mn p
theorem Told.res {m mn l mo : List (PK × Int)} (h : Told m mn l mo) (p : PK) : Delta.res mo p = if p ∈ mo.map (·.1) then 1 else 0 := by
  unfold Delta.res
  by_cases hp : p ∈ mo.map (·.1)
  · rw [if_pos hp]
    obtain ⟨x, hx, rfl⟩ := List.mem_map.1 hp
    rw [mem_look h.1 hx, h.2.1 x hx]; rfl
  · rw [if_neg hp]
    cases hl : PMap.look mo p with
    | none => rfl
    | some n => exact absurd (List.mem_map_of_mem (f := fun x : PK × Int => x.1) (look_some_mem hl)) hp
theorem Told.nil (m mn : List (PK × Int)) : Told m mn [] [] := ⟨List.nodup_nil, (fun _ h => by cases h), fun p => by simp⟩
theorem Told.skip {m mn l mo : List (PK × Int)} (h : Told m mn l mo) {x : PK × Int} (hx : Delta.res m x.1 = Delta.res mn x.1 ∨ x.1 ∈ mo.map (·.1)) : Told m mn (l ++ [x]) mo := by
  refine ⟨h.1, h.2.1, fun p => ?_⟩
  rw [h.2.2 p]
  constructor
  · rintro ⟨⟨y, hy, e⟩, h2⟩; exact ⟨⟨y, by simp [hy], e⟩, h2⟩
  · rintro ⟨⟨y, hy, e⟩, h2⟩
    rcases List.mem_append.1 hy with hy | hy
    · exact ⟨⟨y, hy, e⟩, h2⟩
    · rw [List.mem_singleton.1 hy] at e
      subst e
      rcases hx with hx | hx
      · exact absurd hx h2
      · exact (h.2.2 _).1 hx
theorem Told.more {m mn l mo mo' : List (PK × Int)} (h : Told m mn l mo) {x : PK × Int} (hx : Delta.res m x.1 ≠ Delta.res mn x.1) (hp : mo'.Perm (putL mo x.1 1)) : Told m mn (l ++ [x]) mo' := by
  have hd : Nd (putL mo x.1 1) := h.1.put _ _
  refine ⟨(hp.map _).nodup_iff.2 hd, fun y hy => ?_, fun p => ?_⟩
  · rcases List.mem_cons.1 (hp.mem_iff.1 hy) with rfl | hy
    · rfl
    · exact h.2.1 y (List.mem_filter.1 hy).1
  · rw [(hp.map _).mem_iff]
    constructor
    · intro hm
      obtain ⟨y, hy, rfl⟩ := List.mem_map.1 hm
      rcases List.mem_cons.1 hy with rfl | hy
      · exact ⟨⟨x, by simp, rfl⟩, hx⟩
      · obtain ⟨⟨z, hz, e⟩, h2⟩ := (h.2.2 y.1).1 (List.mem_map_of_mem (f := fun x : PK × Int => x.1) (List.mem_filter.1 hy).1)
        exact ⟨⟨z, by simp [hz], e⟩, h2⟩
    · rintro ⟨⟨y, hy, e⟩, h2⟩
      by_cases hxp : x.1 = p
      · exact List.mem_map.2 ⟨(x.1, 1), List.mem_cons_self, hxp⟩
      · rcases List.mem_append.1 hy with hy | hy
        · obtain ⟨z, hz, ez⟩ := List.mem_map.1 ((h.2.2 p).2 ⟨⟨y, hy, e⟩, h2⟩)
          refine List.mem_map.2 ⟨z, List.mem_cons_of_mem _ (List.mem_filter.2 ⟨hz, ?_⟩), ez⟩
          rw [ez]
          simpa using (Ne.symm hxp)
        · rw [List.mem_singleton.1 hy] at e; exact absurd e hxp
theorem res_bd {m mi : List (PK × Int)} (ha : Al m) (hp : ∀ x ∈ mi, 0 < x.2) (hpm : m.Perm mi) (p : PK) : 0 ≤ Delta.res m p ∧ Delta.res m p ≤ 9223372036854775807 := by
  unfold Delta.res
  cases hl : PMap.look m p with
  | none => simp
  | some n =>
    have h1 := look_some_mem hl
    have h2 := hp _ (hpm.mem_iff.1 h1)
    have h3 := (ha _ h1).2
    unfold In64 at h3
    simp only [Option.getD_some]
    simp only at h2
    omega
theorem flat_K (m : List (PK × Int)) : m.flatMap encK = (m.map (·.1)).flatMap encP := by
  induction m with
  | nil => rfl
  | cons a t ih => rw [List.flatMap_cons, List.map_cons, List.flatMap_cons, ih]; rfl
theorem src_rt {B : Nat} {W : World} {b : Nat} {pv nv : Value} {m : List (PK × Int)} (h : RT B W b pv nv m) : ∃ A cap, pv = .slice A (m.map (·.1)).length cap ∧ Src W 2 A (m.map (·.1)).length ((m.map (·.1)).flatMap encP) := by
  obtain ⟨A, cap, rfl⟩ := h.ps
  refine ⟨A, cap, by rw [List.length_map], ?_⟩
  have := Src.of_own h.rp
  rw [flat_K] at this
  rw [List.length_map]
  exact this
theorem rise_P {m : List (PK × Int)} (h : SeqPure.Rise m) : RiseP (m.map (·.1)) := by
  unfold RiseP
  exact List.pairwise_map.2 h
theorem rise_ndP {l : List PK} (h : RiseP l) : l.Nodup := h.imp fun {a b} hab e => by subst e; exact SeqPure.befP.irrefl _ hab
theorem told_eq {m mn l mo : List (PK × Int)} (h : Told m mn l mo) (hr : SeqPure.Rise mo) {L : List PK} (hL : RiseP L) (hm : ∀ p, p ∈ L ↔ (∃ x ∈ l, x.1 = p) ∧ Delta.res m p ≠ Delta.res mn p) : L = mo.map (·.1) :=
  riseP_uniq hL (rise_P hr) ((List.perm_ext_iff_of_nodup (rise_ndP hL) (rise_ndP (rise_P hr))).2 fun p => by rw [hm p, h.2.2 p])
theorem ch3_of {w W : World} {A : Option Addr} {ch : List (PK × Int)} (h : Kd.C kStep w A ch.length ch) (hk : ∀ k, k < w.heap.size → W.heap[k]? = w.heap[k]?) : Ch3 A ch W := fun j x hx => by
  obtain ⟨ad, e, y0, y1, y2⟩ := at_Step h hx
  have go : ∀ (q : Addr) u, w.cell? q = some u → W.cell? q = some u := fun q u hq => by
    have hlt := World.block_lt_of_cell? w q hq
    have := hk _ hlt
    unfold World.cell? at hq ⊢
    rw [this]
    exact hq
  exact ⟨ad, e, go _ _ y0, go _ _ y1, go _ _ y2⟩
theorem S3.keep {B : Nat} {w W W1 : World} {bd bx bw : Nat} {mv px nx pw nw : Value} {m mx mw : List (PK × Int)} (h : S3 B w W bd bx bw mv px nx pw nw m mx mw) (hk : ∀ k, DFoot bd mv k ∨ CFoot bx px nx k ∨ CFoot bw pw nw k → W1.heap[k]? = W.heap[k]?) (hb : Below w.heap.size w W1) (hs : W.heap.size ≤ W1.heap.size) : S3 B w W1 bd bx bw mv px nx pw nw m mx mw :=
  ⟨h.dt.keep (fun k hd => hk k (.inl hd)), h.rx.keep (fun k hd => hk k (.inr (.inl hd))), h.rw.keep (fun k hd => hk k (.inr (.inr hd))), h.ap, h.gd, h.gx, h.gw, h.hB, Nat.le_trans h.hBW hs, hb⟩
/-- behind i deeds: all three alike -/
structure Sy (B : Nat) (w W : World) (bd bx bw : Nat) (mv px nx pw nw : Value) (m mx mw : List (PK × Int)) : Prop where
  s : S3 B w W bd bx bw mv px nx pw nw m mx mw
  px : mx.Perm m
  rx : SeqPure.Rise mx
  pw : mw.Perm m
  rw : SeqPure.Rise mw
/-- a made row behind later calls: it reads as it did, and lies outside a footprint -/
def Kept (v : Value) (w0 W : World) (F : Nat → Prop) : Prop := ∀ k, v.ownBlock = some k → k < w0.heap.size ∧ W.heap[k]? = w0.heap[k]? ∧ ¬ F k
theorem Kept.upd {v : Value} {w0 W W' : World} {F F' : Nat → Prop} (h : Kept v w0 W F) (hs : w0.heap.size ≤ W.heap.size) (u : Upd F F' W W') : Kept v w0 W' F' := fun k hk => by
  obtain ⟨h1, h2, h3⟩ := h k hk
  refine ⟨h1, (u.block k (by omega) h3).trans h2, fun hf => ?_⟩
  rcases u.new k hf with h4 | h4
  · exact h3 h4
  · omega
theorem Kept.below {v : Value} {w0 W W' : World} {F : Nat → Prop} (h : Kept v w0 W F) (hs : w0.heap.size ≤ W.heap.size) (b : Below W.heap.size W W') : Kept v w0 W' F := fun k hk => by
  obtain ⟨h1, h2, h3⟩ := h k hk
  exact ⟨h1, (b.block k (by omega)).trans h2, h3⟩
theorem own_slc2 {w : World} {D n : Nat} {e : TypeId} {sz : Nat} {v : Value} {xs : List Value} (h : w.ownsRow D e sz v n xs) : ∃ A c, v = .slice A n c := by
  rcases h.2 with ⟨rfl, h0⟩ | ⟨g, cap, cur, rfl, _⟩
  · exact ⟨none, 0, by rw [h0]⟩
  · exact ⟨_, _, rfl⟩
set_option maxHeartbeats 100000000 in
set_option maxRecDepth 100000 in
theorem law_any (A : Option Addr) (cap : Nat) (l : List Dl) (A2 : Option Addr) (cap2 : Nat) (ch : List (PK × Int)) (t : Int) (w : World) (hr : Kd.C kDeed w A l.length l) (hc : l.length ≤ cap) (hl : l.length ≤ maxLen) (hg : ∀ x ∈ l, ((In64 x.1.1.1 ∧ In64 x.1.1.2) ∧ In64 x.1.2) ∧ In64 x.2)
    (hr2 : Kd.C kStep w A2 ch.length ch) (hc2 : ch.length ≤ cap2) (hl2 : ch.length ≤ maxLen) (hg2 : ∀ x ∈ ch, (In64 x.1.1 ∧ In64 x.1.2) ∧ In64 x.2) (ht : In64 t) :
    Calls Try.prog 8 #[.slice A l.length cap, .slice A2 ch.length cap2, .int .i64 t] w fun e w' => e = .returned (.bool true) ∧ Below w.heap.size w w' := by
  have hlm : l.length ≤ 9223372036854775807 := by unfold maxLen at hl; omega
  have hlm2 : ch.length ≤ 9223372036854775807 := by unfold maxLen at hl2; omega
  have HR := Lib.hid hr
  have HR2 := Lib.hid hr2
  have HG := Lib.hid hg
  have HG2 := Lib.hid hg2
  have HT := Lib.hid ht
  clear hr hr2 hg hg2 hl hl2 ht
  go_enter Try.func8, Try.ntmps8
  go_wp2_with fail
  refine (DeltaNone.awake_any _).mono ?_
  rintro e w1 ⟨rfl, b1⟩
  by_cases h2 : 100 < l.length
  · have h3 : (100 : Int) < (l.length : Int) := by omega
    clear h2
    go_wp2_with fail
    go_ret
    exact ⟨rfl, b1⟩
  · have h3 : ¬ (100 : Int) < (l.length : Int) := by omega
    have hl100 : l.length ≤ 100 := by omega
    clear h2
    by_cases h4 : 100 < ch.length
    · have h5 : (100 : Int) < (ch.length : Int) := by omega
      clear h4
      go_wp2_with fail
      go_ret
      exact ⟨rfl, b1⟩
    · have h5 : ¬ (100 : Int) < (ch.length : Int) := by omega
      have hc100 : ch.length ≤ 100 := by omega
      have HB1 := Lib.hid b1
      clear h4 b1
      go_wp2_with fail
      refine (Delta.new_any _).mono ?_
      rintro e w2 ⟨rfl, d2, b2⟩
      have hs1 := HB1.out.size
      have hs2 := b2.size
      have hlt2 := block_lt d2.blk
      have hbx := (Below.refl _ w2).alloc (Nat.le_refl _) (.cells #[.slice none 0 0, .slice none 0 0] 53)
      have kx := heap_alloc_new w2 (.cells #[.slice none 0 0, .slice none 0 0] 53)
      have hbw := hbx.alloc hbx.size (.cells #[.slice none 0 0, .slice none 0 0] 53)
      have kw := heap_alloc_new (w2.alloc (.cells #[.slice none 0 0, .slice none 0 0] 53)) (.cells #[.slice none 0 0, .slice none 0 0] 53)
      simp only [World.size_alloc] at kw
      have kx2 := alloc_blk (x := .cells #[.slice none 0 0, .slice none 0 0] 53) kx
      have hrt : ∀ (W : World) (b : Nat), W.heap[b]? = some (.cells #[.slice none 0 0, .slice none 0 0] 53 (0, 0)) → RT w1.heap.size W b (.slice none 0 0) (.slice none 0 0) [] := fun W b hk =>
        ⟨hk, rfl, rfl, by decide, by decide, World.ownsRow_nil _ _ _ _, World.ownsRow_nil _ _ _ _, by simp, (fun _ h => by cases h), List.nodup_nil⟩
      have hst : S3 w1.heap.size w ((w2.alloc (.cells #[.slice none 0 0, .slice none 0 0] 53)).alloc (.cells #[.slice none 0 0, .slice none 0 0] 53)) w1.heap.size w2.heap.size (w2.heap.size + 1) (.map none) (.slice none 0 0) (.slice none 0 0) (.slice none 0 0) (.slice none 0 0) [] [] [] := by
        have hb02 := HB1.out.trans (b2.mono hs1)
        refine ⟨d2.below hbw, hrt _ _ kx2, hrt _ _ kw, ?_, fun k hk => foot_new _ k hk, hs2, by omega, hs1, by simp; omega, hb02.trans (hbw.mono hb02.size)⟩
        rintro k (rfl | hk | hk) (hx | hx | hx)
        · omega
        · cases hx
        · cases hx
        · cases hk
        · cases hk
        · cases hk
        · cases hk
        · cases hk
        · cases hk
      have HST : Hid (Sy w1.heap.size w _ w1.heap.size w2.heap.size (w2.heap.size + 1) (.map none) (.slice none 0 0) (.slice none 0 0) (.slice none 0 0) (.slice none 0 0) [] [] []) := Lib.hid ⟨hst, .refl _, List.Pairwise.nil, .refl _, List.Pairwise.nil⟩
      clear d2 b2 hbx kx hbw kw kx2 hrt hst
      go_wp2_with fail
      generalize (w2.alloc (.cells #[.slice none 0 0, .slice none 0 0] 53)).alloc (.cells #[.slice none 0 0, .slice none 0 0] 53) = w3 at *
      go_loopw [10] (fun v10 wr => ∃ (i : Nat) (mv px nx pw nw : Value) (m mx mw : List (PK × Int)), i ≤ l.length ∧ v10 = .int .i64 (i : Int) ∧ Hid (Sy w1.heap.size w wr w1.heap.size w2.heap.size (w2.heap.size + 1) mv px nx pw nw m mx mw) ∧ Hid (m.length ≤ i)) (fun i _ => l.length - (intOf i).toNat)
      case atStart => exact ⟨0, _, _, _, _, _, [], [], [], by omega, rfl, HST, Lib.hid (by simp)⟩
      case round =>
        clear HST
        obtain ⟨i, mv, px, nx, pw, nw, m, mx, mw, hi, rfl, HST, HML⟩ := hrel
        have hi0 : (0 : Int) ≤ (i : Int) := by omega
        by_cases hlt : i < l.length
        · have hil2 : (i : Int) < (l.length : Int) := by omega
          have hx := List.getElem?_eq_getElem hlt
          have hgx := HG.out _ (List.getElem_mem hlt)
          generalize l[i] = x at hx hgx
          obtain ⟨⟨⟨x1, x2⟩, xb⟩, xt⟩ := x
          obtain ⟨ad, rfl, y0, y1, y2, y3⟩ := at_Deed HR.out hx
          simp only at y0 y1 y2 y3 hgx
          obtain ⟨⟨hpx, hbx⟩, htx⟩ := hgx
          have HY := Lib.hid (show ∀ W, Below w.heap.size w W → (W.cell? (ad.add (i * 4)) = some (.int .i64 x1) ∧ W.cell? ⟨(ad.add (i * 4)).block, (ad.add (i * 4)).off + 1, none⟩ = some (.int .i64 x2) ∧ W.cell? ⟨(ad.add (i * 4)).block, (ad.add (i * 4)).off + 2, none⟩ = some (.int .i64 xb) ∧ W.cell? ⟨(ad.add (i * 4)).block, (ad.add (i * 4)).off + 3, none⟩ = some (.int .i64 xt)) from fun W hW => by
            have k : ∀ (q : Addr) u, w.cell? q = some u → W.cell? q = some u := fun q u hq => (hW.cell (World.block_lt_of_cell? w q hq)).trans hq
            exact ⟨k _ _ y0, k _ _ y1, k _ _ y2, k _ _ y3⟩)
          have hm100 : m.length ≤ 100 := by have := HML.out; omega
          have HS4 := Lib.hid (HST.out.s.below ((Below.refl _ wr).drew))
          have hadd := add_any HS4.out.dt (by omega) (x1, x2) hpx xb xt hbx htx
          have hex := addE_perm HST.out.s.dt.nd HST.out.px (x1, x2) xb xt
          have hew := addE_perm HST.out.s.dt.nd HST.out.pw (x1, x2) xb xt
          have hle := addE_le m (x1, x2) xb xt
          have hbd := fun p => HST.out.s.dt.res64 p
          have hrx : 0 ≤ res mx (x1, x2) ∧ res mx (x1, x2) ≤ 9223372036854775807 := by rw [resP HST.out.s.dt.nd HST.out.px]; exact hbd _
          have hrw : 0 ≤ res mw (x1, x2) ∧ res mw (x1, x2) ≤ 9223372036854775807 := by rw [resP HST.out.s.dt.nd HST.out.pw]; exact hbd _
          obtain ⟨er, her⟩ : ∃ er, addE m (x1, x2) xb xt = er := ⟨_, rfl⟩
          rw [her] at hadd hex hew hle
          obtain ⟨e1, m1⟩ := er
          simp only at hadd hex hew hle
          have hraddx := fun (W : World) (hR : RT w1.heap.size W w2.heap.size px nx mx) (hB : w1.heap.size ≤ W.heap.size) => RefCnt.radd_any hR hB (by have := HST.out.px.length_eq; omega) (x1, x2) hpx xb xt hbx htx hrx
          have hraddw := fun (W : World) (hR : RT w1.heap.size W (w2.heap.size + 1) pw nw mw) (hB : w1.heap.size ≤ W.heap.size) => RefCnt.radd_any hR hB (by have := HST.out.pw.length_eq; omega) (x1, x2) hpx xb xt hbx htx hrw
          unfold AddOut at hraddx hraddw
          rw [hex.1] at hraddx
          rw [hew.1] at hraddw
          have HADD := Lib.hid hadd
          have HRX := Lib.hid hraddx
          have HRW := Lib.hid hraddw
          unfold vP at HADD HRX HRW
          have HEX := Lib.hid hex
          have HEW := Lib.hid hew
          have HLE := Lib.hid hle
          clear hx hpx hbx htx y0 y1 y2 y3 hadd hex hew hle hbd hrx hrw her hraddx hraddw
          go_wp2_with fail
          go_region_held3 (fun W => W.cell? (ad.add (i * 4)) = some (.int .i64 x1) ∧ W.cell? ⟨(ad.add (i * 4)).block, (ad.add (i * 4)).off + 1, none⟩ = some (.int .i64 x2) ∧ W.cell? ⟨(ad.add (i * 4)).block, (ad.add (i * 4)).off + 2, none⟩ = some (.int .i64 xb) ∧ W.cell? ⟨(ad.add (i * 4)).block, (ad.add (i * 4)).off + 3, none⟩ = some (.int .i64 xt))
            (first | exact HY.out _ HS4.out.bel | exact HY.out _ HS5.out.bel)
            (first | (go_at_call 23; refine HADD.out.mono ?_; rintro e w5 ⟨rfl, mv5, d5, u5⟩; have HS5 := Lib.hid (HS4.out.onD d5 u5); clear d5 u5))
          have HS5d := Lib.hid (HS5.out.below ((Below.refl _ w5).drew))
          clear HADD
          go_wp2_with fail
          go_region_held3 (fun W => W.cell? (ad.add (i * 4)) = some (.int .i64 x1) ∧ W.cell? ⟨(ad.add (i * 4)).block, (ad.add (i * 4)).off + 1, none⟩ = some (.int .i64 x2) ∧ W.cell? ⟨(ad.add (i * 4)).block, (ad.add (i * 4)).off + 2, none⟩ = some (.int .i64 xb) ∧ W.cell? ⟨(ad.add (i * 4)).block, (ad.add (i * 4)).off + 3, none⟩ = some (.int .i64 xt))
            (first | exact HY.out _ HS5d.out.bel | exact HY.out _ HS6.out.bel)
            (first | (go_at_call 24; refine (HRX.out _ HS5d.out.rx HS5d.out.hBW).mono ?_; rintro e w6 ⟨rfl, px6, nx6, mx6, r6, p6, s6, u6⟩; have HS6 := Lib.hid (HS5d.out.onX r6 u6); have HX6 := Lib.hid (And.intro (p6.trans HEX.out.2) (s6 HST.out.rx)); clear r6 p6 s6 u6))
          have HS6d := Lib.hid (HS6.out.below ((Below.refl _ w6).drew))
          clear HRX
          go_wp2_with fail
          go_region_held3 (fun W => W.cell? (ad.add (i * 4)) = some (.int .i64 x1) ∧ W.cell? ⟨(ad.add (i * 4)).block, (ad.add (i * 4)).off + 1, none⟩ = some (.int .i64 x2) ∧ W.cell? ⟨(ad.add (i * 4)).block, (ad.add (i * 4)).off + 2, none⟩ = some (.int .i64 xb) ∧ W.cell? ⟨(ad.add (i * 4)).block, (ad.add (i * 4)).off + 3, none⟩ = some (.int .i64 xt))
            (first | exact HY.out _ HS6d.out.bel | exact HY.out _ HS7.out.bel)
            (first | (go_at_call 24; refine (HRW.out _ HS6d.out.rw HS6d.out.hBW).mono ?_; rintro e w7 ⟨rfl, pw7, nw7, mw7, r7, p7, s7, u7⟩; have HS7 := Lib.hid (HS6d.out.onW r7 u7); have HW7 := Lib.hid (And.intro (p7.trans HEW.out.2) (s7 HST.out.rw)); clear r7 p7 s7 u7))
          have HSY := Lib.hid (show Sy w1.heap.size w w7 w1.heap.size w2.heap.size (w2.heap.size + 1) mv5 px6 nx6 pw7 nw7 m1 mx6 mw7 from ⟨HS7.out, HX6.out.1, HX6.out.2, HW7.out.1, HW7.out.2⟩)
          have HM1 := Lib.hid (show m1.length ≤ i + 1 by have := HML.out; have := HLE.out; omega)
          clear HRW HS4 HS5 HS5d HS6 HS6d HS7 HX6 HW7 HEX HEW HLE
          go_wp2_with fail
          go_roundw
          case rel => exact ⟨i + 1, _, _, _, _, _, _, _, _, by omega, by go_num, HSY, HM1⟩
          case measure => simp [intOf]; omega
        · obtain rfl : i = l.length := by omega
          have hnl : ¬ (l.length : Int) < (l.length : Int) := by omega
          have hm100 : m.length ≤ 100 := by have := HML.out; omega
          have hap := apply_any HST.out.s.dt ch A2 cap2 (by omega) (fun W hW => ch3_of HR2.out (fun k hk => (hW k (by have := HST.out.s.bel.size; omega) (fun hf => by have := HST.out.s.gd k hf; have := HST.out.s.hB; omega)).trans (HST.out.s.bel.block k hk))) HG2.out t HT.out
          obtain ⟨ar, har⟩ : ∃ ar, appE m ch t = ar := ⟨_, rfl⟩
          rw [har] at hap
          have HAR := Lib.hid har
          have HAP := Lib.hid hap
          clear hap har
          go_wp2_with fail
          refine HAP.out.mono ?_
          rintro e w4 ⟨v4, mv4, rfl, d4, u4, n4, y4⟩
          have HS4 := Lib.hid (HST.out.s.onD d4 u4)
          have HN4 := Lib.hid n4
          have HY4 := Lib.hid y4
          have HKV := Lib.hid (show Kept v4 w4 w4 (CFoot w2.heap.size px nx) from fun k hk => by
            by_cases h0 : ar.1 = 0
            · obtain ⟨L, q1, q2, q3⟩ := y4 h0
              have h9 := q3.lt k hk
              exact ⟨h9.2, rfl, fun hf => by have := HST.out.s.rx.lt _ hf; omega⟩
            · rw [n4 h0] at hk; cases hk)
          have hs4 := u4.size
          have hbo := (Below.refl _ w4).alloc (Nat.le_refl _) (.cells #[.slice none 0 0, .slice none 0 0] 53)
          have ko := heap_alloc_new w4 (.cells #[.slice none 0 0, .slice none 0 0] 53)
          have HS5 := Lib.hid (HS4.out.below hbo)
          replace HKV := Lib.hid (HKV.out.below (Nat.le_refl _) hbo)
          have HKO := Lib.hid ko
          have HNX := Lib.hid (show ¬ CFoot w2.heap.size px nx w4.heap.size from fun hf => by have := HS4.out.rx.lt _ hf; omega)
          have HNW := Lib.hid (show ¬ CFoot (w2.heap.size + 1) pw nw w4.heap.size from fun hf => by have := HS4.out.rw.lt _ hf; omega)
          have HB4 := Lib.hid HS4.out.hBW
          have HPO := Lib.hid HST.out.s.dt.pos
          have HND := Lib.hid HST.out.s.dt.nd
          clear d4 u4 n4 y4 hbo ko HAP HS4
          go_wp2_with fail
          generalize w4.alloc (.cells #[.slice none 0 0, .slice none 0 0] 53) = w5 at *
          obtain ⟨f0, m0⟩ := ar
          simp only at HS5 HN4 HY4
          go_loopw [13, 15] (fun v13 v15 wr => ∃ (i : Nat) (f : Int) (mi mx : List (PK × Int)) (px nx : Value), i ≤ ch.length ∧ v13 = .int .i64 f ∧ v15 = .int .i64 (i : Int) ∧ Hid (S3 w1.heap.size w wr w1.heap.size w2.heap.size (w2.heap.size + 1) mv4 px nx pw nw m0 mx mw) ∧ Hid (mx.Perm mi) ∧ Hid (SeqPure.Rise mx) ∧ Hid ((f = 0 ∧ appE m (ch.take i) t = (0, mi)) ∨ (f ≠ 0 ∧ appE m ch t = (f, mi))) ∧ Hid (mi.length ≤ m.length + i) ∧ Hid (∀ x ∈ mi, 0 < x.2) ∧ Hid (wr.heap[w4.heap.size]? = some (.cells #[.slice none 0 0, .slice none 0 0] 53 (0, 0))) ∧ Hid (¬ CFoot w2.heap.size px nx w4.heap.size) ∧ Hid (Kept v4 w4 wr (CFoot w2.heap.size px nx))) (fun _ i _ => ch.length - (intOf i).toNat)
          case atStart => exact ⟨0, 0, m, mx, px, nx, by omega, rfl, rfl, HS5, Lib.hid HST.out.px, Lib.hid HST.out.rx, Lib.hid (.inl ⟨rfl, rfl⟩), Lib.hid (by omega), HPO, HKO, HNX, HKV⟩
          case round =>
            clear HS5 HKO HNX HKV
            obtain ⟨i, f, mi, mx2, px2, nx2, hi, rfl, rfl, HS, HPX, HRI, HF, HML2, HPOS, HKO, HNX, HKV⟩ := hrel
            have hi0 : (0 : Int) ≤ (i : Int) := by omega
            by_cases hgo : i < ch.length ∧ f = 0
            · obtain ⟨hlt, rfl⟩ := hgo
              have hil2 : (i : Int) < (ch.length : Int) := by omega
              have hx := List.getElem?_eq_getElem hlt
              have hgx := HG2.out _ (List.getElem_mem hlt)
              generalize ch[i] = x at hx hgx
              obtain ⟨⟨x1, x2⟩, xb⟩ := x
              obtain ⟨ad, rfl, y0, y1, y2⟩ := at_Step HR2.out hx
              simp only at y0 y1 y2 hgx
              obtain ⟨hpx, hbx⟩ := hgx
              have HY := Lib.hid (show ∀ W, Below w.heap.size w W → (W.cell? (ad.add (i * 3)) = some (.int .i64 x1) ∧ W.cell? ⟨(ad.add (i * 3)).block, (ad.add (i * 3)).off + 1, none⟩ = some (.int .i64 x2) ∧ W.cell? ⟨(ad.add (i * 3)).block, (ad.add (i * 3)).off + 2, none⟩ = some (.int .i64 xb)) from fun W hW => by
                have k : ∀ (q : Addr) u, w.cell? q = some u → W.cell? q = some u := fun q u hq => (hW.cell (World.block_lt_of_cell? w q hq)).trans hq
                exact ⟨k _ _ y0, k _ _ y1, k _ _ y2⟩)
              have HE : Hid (appE m (ch.take i) t = (0, mi)) := Lib.hid (by
                rcases HF.out with ⟨_, h⟩ | ⟨h, _⟩
                · exact h
                · exact absurd rfl h)
              have hndi : Nd mi := ((HPX.out.map _).nodup_iff).1 HS.out.rx.nd
              have hex := addE_perm hndi HPX.out (x1, x2) xb t
              have hle := addE_le mi (x1, x2) xb t
              have hps := addE_pos HPOS.out (x1, x2) xb t
              have hre := addE_err (m := mi) (p := (x1, x2)) (b := xb) (t := t)
              have HS6 := Lib.hid (HS.out.below ((Below.refl _ wr).drew))
              have hradd := RefCnt.radd_any HS6.out.rx HS6.out.hBW (by have := HPX.out.length_eq; have := HML2.out; omega) (x1, x2) hpx xb t hbx HT.out (res_bd HS6.out.rx.al HPOS.out HPX.out _)
              unfold AddOut at hradd
              rw [hex.1] at hradd
              obtain ⟨er, her⟩ : ∃ er, addE mi (x1, x2) xb t = er := ⟨_, rfl⟩
              rw [her] at hradd hex hle hps hre
              have HER := Lib.hid her
              have HX := Lib.hid hx
              have HRADD := Lib.hid hradd
              unfold vP at HRADD
              have HEX := Lib.hid hex
              have HLE := Lib.hid hle
              have HPS := Lib.hid hps
              clear hx hpx hbx y0 y1 y2 hradd hex hle hps hre her hndi
              go_wp2_with fail
              go_region_held3 (fun W => W.cell? (ad.add (i * 3)) = some (.int .i64 x1) ∧ W.cell? ⟨(ad.add (i * 3)).block, (ad.add (i * 3)).off + 1, none⟩ = some (.int .i64 x2) ∧ W.cell? ⟨(ad.add (i * 3)).block, (ad.add (i * 3)).off + 2, none⟩ = some (.int .i64 xb))
                (first | exact HY.out _ HS6.out.bel | exact HY.out _ HS7.out.bel)
                (first | (go_at_call 24; refine HRADD.out.mono ?_; rintro e w7 ⟨rfl, px7, nx7, mx7, r7, p7, s7, u7⟩; have HS7 := Lib.hid (HS6.out.onX r7 u7); have HX7 := Lib.hid (And.intro (p7.trans HEX.out.2) (s7 HRI.out)); have HKO7 := Lib.hid ((u7.block _ (by have := block_lt HKO.out; simpa using this) HNX.out).trans (show wr.drew.heap[w4.heap.size]? = _ from HKO.out)); have HNX7 := Lib.hid (show ¬ CFoot w2.heap.size px7 nx7 w4.heap.size from fun hf => by
                  have hlt9 := block_lt HKO.out
                  rcases u7.new _ hf with h9 | h9
                  · exact HNX.out h9
                  · have h10 : wr.heap.size ≤ w4.heap.size := h9
                    omega); have HKV7 := Lib.hid ((HKV.out.below (Nat.le_of_lt (block_lt HKO.out)) ((Below.refl _ wr).drew)).upd (Nat.le_of_lt (block_lt HKO.out)) u7); clear r7 p7 s7 u7))
              have HF7 := Lib.hid (show (er.1 = 0 ∧ appE m (ch.take (i + 1)) t = (0, er.2)) ∨ (er.1 ≠ 0 ∧ appE m ch t = (er.1, er.2)) by
                by_cases h0 : er.1 = 0
                · refine .inl ⟨h0, ?_⟩
                  rw [take_at HX.out, appE_next HE.out ((x1, x2), xb) (by rw [HER.out]; exact h0), HER.out]
                · refine .inr ⟨h0, ?_⟩
                  refine (congrArg (fun z => appE m z t) (split_at HX.out)).trans ?_
                  show appE m (ch.take i ++ ((x1, x2), xb) :: ch.drop (i + 1)) t = _
                  rw [appE_stop HE.out ((x1, x2), xb) _ (by rw [HER.out]; exact h0), HER.out])
              go_wp2_with fail
              go_roundw
              case rel => exact ⟨i + 1, er.1, er.2, mx7, px7, nx7, by omega, rfl, by go_num, HS7, Lib.hid HX7.out.1, Lib.hid HX7.out.2, HF7, Lib.hid (by have := HLE.out; have := HML2.out; omega), HPS, HKO7, HNX7, HKV7⟩
              case measure => simp [intOf]; omega
            · have HFF := Lib.hid (show appE m ch t = (f, mi) by
                rcases HF.out with ⟨h1, h2⟩ | ⟨_, h2⟩
                · have e : i = ch.length := by omega
                  rw [e, List.take_length] at h2
                  rw [h1]; exact h2
                · exact h2)
              have hff := HFF.out
              rw [HAR.out] at hff
              obtain ⟨hf0, hm0⟩ : f0 = f ∧ m0 = mi := by cases hff; exact ⟨rfl, rfl⟩
              subst hf0
              subst hm0
              clear hff
              by_cases hlt1 : i < ch.length
              · have hil2 : (i : Int) < (ch.length : Int) := by omega
                have hf1 : (f0 == 0) = false := by
                  have : f0 ≠ 0 := fun e => hgo ⟨hlt1, e⟩
                  simpa using this
                clear hgo
                go_wp2_with fail
                go_loopw [16] (fun v16 wr => ∃ (i : Nat) (po no : Value) (mo : List (PK × Int)), i ≤ ch.length ∧ v16 = .int .i64 (i : Int) ∧ Hid (S3 w1.heap.size w wr w1.heap.size w2.heap.size (w2.heap.size + 1) mv4 px2 nx2 pw nw m0 mx2 mw) ∧ Hid (RT w1.heap.size wr w4.heap.size po no mo) ∧ Hid (SeqPure.Rise mo) ∧ Hid (Told m m0 (ch.take i) mo) ∧ Hid (mo.length ≤ i) ∧ Hid (∀ k, CFoot w4.heap.size po no k → ¬ CFoot w2.heap.size px2 nx2 k) ∧ Hid (∀ k, CFoot w4.heap.size po no k → ¬ CFoot (w2.heap.size + 1) pw nw k) ∧ Hid (Kept v4 w4 wr (CFoot w4.heap.size po no)) ∧ Hid (w4.heap.size ≤ wr.heap.size)) (fun i _ => ch.length - (intOf i).toNat)
                case atStart =>
                  refine ⟨0, _, _, [], by omega, rfl, HS, Lib.hid ⟨HKO.out, rfl, rfl, by decide, by decide, World.ownsRow_nil _ _ _ _, World.ownsRow_nil _ _ _ _, by simp, (fun _ h => by cases h), List.nodup_nil⟩, Lib.hid List.Pairwise.nil, Lib.hid (Told.nil _ _), Lib.hid (by simp), Lib.hid ?_, Lib.hid ?_, Lib.hid (fun k hk => ?_), Lib.hid (Nat.le_of_lt (block_lt HKO.out))⟩
                  · rintro k (rfl | hk | hk)
                    · exact HNX.out
                    · cases hk
                    · cases hk
                  · rintro k (rfl | hk | hk)
                    · exact HNW.out
                    · cases hk
                    · cases hk
                  · obtain ⟨h1, h2, h3⟩ := HKV.out k hk
                    refine ⟨h1, h2, ?_⟩
                    rintro (h4 | h4 | h4)
                    · omega
                    · cases h4
                    · cases h4
                case round =>
                  clear HS HKO HNX HKV
                  obtain ⟨i, po, no, mo, hi, rfl, HS, HO, HRO, HTL, HMO, HAX, HAW, HKV, HSZ⟩ := hrel
                  have hi0 : (0 : Int) ≤ (i : Int) := by omega
                  by_cases hlt : i < ch.length
                  · have hil2 : (i : Int) < (ch.length : Int) := by omega
                    have hx := List.getElem?_eq_getElem hlt
                    have hgx := HG2.out _ (List.getElem_mem hlt)
                    generalize ch[i] = x at hx hgx
                    obtain ⟨⟨x1, x2⟩, xb⟩ := x
                    obtain ⟨ad, rfl, y0, y1, y2⟩ := at_Step HR2.out hx
                    simp only at y0 y1 y2 hgx
                    replace y0 := (HS.out.bel.cell (World.block_lt_of_cell? w _ y0)).trans y0
                    replace y1 := (HS.out.bel.cell (World.block_lt_of_cell? w _ y1)).trans y1
                    obtain ⟨hpx, hbx⟩ := hgx
                    have g0 := fun g => Ext.cell (u := .int .i64 x1) y0 g
                    have g1 := fun g => Ext.cell (u := .int .i64 x2) y1 g
                    have hgX := fun V (hV : Below wr.heap.size wr V) => rget_any (HS.out.rx.below hV) (x1, x2)
                    have hgW := fun V (hV : Below wr.heap.size wr V) => rget_any (HS.out.rw.below hV) (x1, x2)
                    have hgO := fun V (hV : Below wr.heap.size wr V) => rget_any (HO.out.below hV) (x1, x2)
                    rw [resP HS.out.dt.nd HPX.out] at hgX
                    rw [resP HND.out HST.out.pw] at hgW
                    rw [HTL.out.res] at hgO
                    unfold vP at hgX hgW hgO
                    have HX := Lib.hid (take_at hx)
                    have HPP := Lib.hid hpx
                    have HBX := Lib.hid hbx
                    clear hx hpx hbx
                    have htail : ∀ (b c : Bool), True := fun _ _ => trivial
                    by_cases hne : Delta.res m0 (x1, x2) = Delta.res m (x1, x2)
                    · have HNE := Lib.hid hne
                      obtain ⟨a, ha⟩ : ∃ a, Delta.res m (x1, x2) = a := ⟨_, rfl⟩
                      have hd : Delta.res m0 (x1, x2) = a := hne.trans ha
                      have hab : (a != a) = false := by simp
                      have hab2 : (a == a) = true := by simp
                      rw [ha] at hgW
                      rw [hd] at hgX
                      obtain ⟨c, hcc⟩ : ∃ c : Int, (if (x1, x2) ∈ mo.map (·.1) then (1 : Int) else 0) = c := ⟨_, rfl⟩
                      rw [hcc] at hgO
                      have HYY := Lib.hid (And.intro y0 y1)
                      clear hne ha hd hcc y0 y1 htail
                      have HGX := Lib.hid hgX
                      have HGW := Lib.hid hgW
                      have HWD := Lib.hid (show Below wr.heap.size wr wr.drew from (Below.refl _ wr).drew)
                      have HY := Lib.hid (show ∀ V, Below wr.heap.size wr V → (V.cell? (ad.add (i * 3)) = some (.int .i64 x1) ∧ V.cell? ⟨(ad.add (i * 3)).block, (ad.add (i * 3)).off + 1, none⟩ = some (.int .i64 x2)) from fun V hV => ⟨(hV.cell (World.block_lt_of_cell? wr _ HYY.out.1)).trans HYY.out.1, (hV.cell (World.block_lt_of_cell? wr _ HYY.out.2)).trans HYY.out.2⟩)
                      clear hgX hgW hgO HYY HY HWD
                      go_wp2_with fail
                      refine wp_region_ext (by kernel_rfl) (by kernel_rfl) ?_
                      repeat (quiet_step (first | (go_at_call_of 26 (Value.pointer (some ⟨w2.heap.size, 0, none⟩)); exact ext_of (HGX.out _ (Ext.below _)))))
                      quiet_step (first | (go_at_call 26; exact ext_of (HGW.out _ (Ext.below _))))
                      clear HGX HGW
                      refine Boxd.out ?_
                      refine wpQuiet_stepO (fun K hK => ?_)
                      go_simp
                      refine hK _ ?_
                      clear hK K
                      refine wpQuiet_stepO (fun K hK => ?_)
                      go_simp
                      refine hK _ ?_
                      clear hK K
                      refine wpQuiet_skipO (by kernel_rfl) ?_
                      simp only [Act.put, List.setIfInBounds_toArray, List.set_cons_zero, List.set_cons_succ]
                      refine wpQuiet_skipO (by kernel_rfl) ?_
                      simp only [Act.put, List.setIfInBounds_toArray, List.set_cons_zero, List.set_cons_succ]
                      refine wpQuiet_skipO (by kernel_rfl) ?_
                      simp only [Act.put, List.setIfInBounds_toArray, List.set_cons_zero, List.set_cons_succ]
                      refine wpQuiet_skipO (by kernel_rfl) ?_
                      simp only [Act.put, List.setIfInBounds_toArray, List.set_cons_zero, List.set_cons_succ]
                      refine wpQuiet_skipO (by kernel_rfl) ?_
                      simp only [Act.put, List.setIfInBounds_toArray, List.set_cons_zero, List.set_cons_succ]
                      refine wpQuiet_skipO (by kernel_rfl) ?_
                      simp only [Act.put, List.setIfInBounds_toArray, List.set_cons_zero, List.set_cons_succ]
                      refine wpQuiet_skipO (by kernel_rfl) ?_
                      simp only [Act.put, List.setIfInBounds_toArray, List.set_cons_zero, List.set_cons_succ]
                      refine wpQuiet_skipO (by kernel_rfl) ?_
                      simp only [Act.put, List.setIfInBounds_toArray, List.set_cons_zero, List.set_cons_succ]
                      refine wpQuiet_stepO (fun K hK => ?_)
                      go_simp
                      refine hK _ ?_
                      clear hK K
                      refine wpQuiet_nilO ?_
                      rintro w8 ⟨⟨w9, b9⟩, he⟩
                      have he2 : w8 = w9 := he
                      subst he2
                      have HS8 := Lib.hid (HS.out.below b9)
                      have HO8 := Lib.hid (HO.out.below b9)
                      have HKV8 := Lib.hid (HKV.out.below HSZ.out b9)
                      have HSZ8 := Lib.hid (Nat.le_trans HSZ.out b9.size)
                      clear b9 he g0 g1
                      go_wp2_with fail
                      go_roundw
                      case rel => exact ⟨i + 1, po, no, mo, by omega, by go_num, HS8, HO8, HRO, Lib.hid (by rw [HX.out]; exact HTL.out.skip (.inl HNE.out.symm)), Lib.hid (Nat.le_succ_of_le HMO.out), HAX, HAW, HKV8, HSZ8⟩
                      case measure => simp [intOf]; omega
                    · have HNE := Lib.hid hne
                      obtain ⟨a, ha⟩ : ∃ a, Delta.res m (x1, x2) = a := ⟨_, rfl⟩
                      obtain ⟨d, hd⟩ : ∃ d, Delta.res m0 (x1, x2) = d := ⟨_, rfl⟩
                      have hab : (d != a) = true := by rw [ha, hd] at hne; simpa using hne
                      rw [ha] at hgW
                      rw [hd] at hgX
                      by_cases hin : (x1, x2) ∈ mo.map (·.1)
                      · rw [if_pos hin] at hgO
                        have HIN := Lib.hid hin
                        clear hne ha hd hin y0 y1 htail
                        go_wp2_with fail
                        refine wp_region_ext (by kernel_rfl) (by kernel_rfl) ?_
                        repeat (quiet_step (first | (go_at_call_of 26 (Value.pointer (some ⟨w2.heap.size, 0, none⟩)); exact ext_of (hgX _ (Ext.below _)))))
                        quiet_step (first | (go_at_call 26; exact ext_of (hgW _ (Ext.below _))))
                        clear hgX hgW
                        repeat (quiet_step (first | (go_at_call_of 26 (Value.pointer (some ⟨w4.heap.size, 0, none⟩)); exact ext_of (hgO _ (Ext.below _)))))
                        refine wpQuiet_nil ?_
                        rintro w8 ⟨⟨w9, b9⟩, he⟩
                        have he2 : w8 = w9 := he
                        subst he2
                        have HS8 := Lib.hid (HS.out.below b9)
                        have HO8 := Lib.hid (HO.out.below b9)
                        have HKV8 := Lib.hid (HKV.out.below HSZ.out b9)
                        have HSZ8 := Lib.hid (Nat.le_trans HSZ.out b9.size)
                        clear he b9 g0 g1 hgO
                        go_wp2_with fail
                        go_roundw
                        case rel => exact ⟨i + 1, po, no, mo, by omega, by go_num, HS8, HO8, HRO, Lib.hid (by rw [HX.out]; exact HTL.out.skip (.inr HIN.out)), Lib.hid (Nat.le_succ_of_le HMO.out), HAX, HAW, HKV8, HSZ8⟩
                        case measure => simp [intOf]; omega
                      · rw [if_neg hin] at hgO
                        have HRES := Lib.hid (show Delta.res mo (x1, x2) = 0 by rw [HTL.out.res, if_neg hin])
                        have HYY := Lib.hid (And.intro y0 y1)
                        clear hne ha hd hin y0 y1 htail
                        go_wp2_with fail
                        refine wp_region_ext (by kernel_rfl) (by kernel_rfl) ?_
                        repeat (quiet_step (first | (go_at_call_of 26 (Value.pointer (some ⟨w2.heap.size, 0, none⟩)); exact ext_of (hgX _ (Ext.below _)))))
                        quiet_step (first | (go_at_call 26; exact ext_of (hgW _ (Ext.below _))))
                        clear hgX hgW
                        repeat (quiet_step (first | (go_at_call_of 26 (Value.pointer (some ⟨w4.heap.size, 0, none⟩)); exact ext_of (hgO _ (Ext.below _)))))
                        refine wpQuiet_nil ?_
                        rintro w8 ⟨⟨w9, b9⟩, he⟩
                        have he2 : w8 = w9 := he
                        subst he2
                        have HS8 := Lib.hid (HS.out.below b9)
                        have HO8 := Lib.hid (HO.out.below b9)
                        have HKV8 := Lib.hid (HKV.out.below HSZ.out b9)
                        have HSZ8 := Lib.hid (Nat.le_trans HSZ.out b9.size)
                        have y0 := (b9.cell (World.block_lt_of_cell? wr _ HYY.out.1)).trans HYY.out.1
                        have y1 := (b9.cell (World.block_lt_of_cell? wr _ HYY.out.2)).trans HYY.out.2
                        have hradd := RefCnt.radd_any HO8.out HS8.out.hBW (by have := HMO.out; omega) (x1, x2) HPP.out 1 1 (by unfold In64; omega) (by unfold In64; omega) (by rw [HRES.out]; omega)
                        have hae : addE mo (x1, x2) 1 1 = (0, putL mo (x1, x2) 1) := by
                          unfold addE
                          rw [if_neg (by omega), HRES.out]
                          have hs : sumD 0 1 1 = some 1 := by unfold sumD; rw [if_pos (by omega)]; rfl
                          rw [hs]
                          show (0, setL mo (x1, x2) 1) = _
                          unfold setL
                          rw [if_neg (by omega)]
                        unfold AddOut at hradd
                        rw [hae] at hradd
                        unfold vP at hradd
                        have HRADD := Lib.hid hradd
                        clear he b9 g0 g1 hgO HYY hradd hae
                        go_wp2_with fail
                        refine HRADD.out.mono ?_
                        rintro e w7 ⟨rfl, po7, no7, mo7, r7, p7, s7, u7⟩
                        have HS7 := Lib.hid (HS8.out.keep (W1 := w7) (fun k hk => u7.block k (by
                          rcases hk with hk | hk | hk
                          · exact HS8.out.dt.lt k hk
                          · exact HS8.out.rx.lt k hk
                          · exact HS8.out.rw.lt k hk) (fun ho => by
                          rcases hk with hk | hk | hk
                          · exact cd_apart HS8.out.dt HO8.out k ho hk
                          · exact HAX.out k ho hk
                          · exact HAW.out k ho hk)) (HS8.out.bel.trans (u7.below HS8.out.bel.size (fun k hk => Nat.le_trans HS8.out.hB (rt_ge HO8.out HB4.out k hk)))) u7.size)
                        have HAX7 := Lib.hid (show ∀ k, CFoot w4.heap.size po7 no7 k → ¬ CFoot w2.heap.size px2 nx2 k from fun k ho hx => u7.apart HS8.out.rx.lt (fun k hx ho => HAX.out k ho hx) k hx ho)
                        have HAW7 := Lib.hid (show ∀ k, CFoot w4.heap.size po7 no7 k → ¬ CFoot (w2.heap.size + 1) pw nw k from fun k ho hx => u7.apart HS8.out.rw.lt (fun k hx ho => HAW.out k ho hx) k hx ho)
                        have HO7 := Lib.hid r7
                        have HKV7 := Lib.hid (HKV8.out.upd HSZ8.out u7)
                        have HSZ7 := Lib.hid (Nat.le_trans HSZ8.out u7.size)
                        have HRO7 := Lib.hid (s7 HRO.out)
                        have HTL7 := Lib.hid (HTL.out.more (x := ((x1, x2), xb)) (fun e => HNE.out e.symm) p7)
                        have HML7 := Lib.hid (show mo7.length ≤ i + 1 by
                          have h1 := p7.length_eq
                          have h2 := Delta.put_le mo (x1, x2) 1
                          have h3 := HMO.out
                          omega)
                        clear HRADD r7 p7 s7 u7
                        go_wp2_with fail
                        go_roundw
                        case rel => exact ⟨i + 1, po7, no7, mo7, by omega, by go_num, HS7, HO7, HRO7, Lib.hid (by rw [HX.out]; exact HTL7.out), HML7, HAX7, HAW7, HKV7, HSZ7⟩
                        case measure => simp [intOf]; omega
                  · obtain rfl : i = ch.length := by omega
                    have hnl : ¬ (ch.length : Int) < (ch.length : Int) := by omega
                    have hto := HTL.out
                    rw [List.take_length] at hto
                    have HTO := Lib.hid hto
                    clear hto
                    have ho1 := HO.out.cp
                    have hx1 := HS.out.rx.cp
                    have HX1 := Lib.hid hx1
                    obtain ⟨Ax, cx, epx, hsx⟩ := src_rt HS.out.rx
                    obtain ⟨LX, hLX⟩ : ∃ LX, LX = mx2.map (·.1) := ⟨_, rfl⟩
                    have hlx : LX.length ≤ 1000000 := by
                      have h2 := HS.out.rx.small
                      rw [hLX, List.length_map]; omega
                    rw [← hLX] at epx hsx
                    obtain ⟨Ao, co, epo, hso⟩ := src_rt HO.out
                    have HSX := Lib.hid hsx
                    have hall := fun (W : World) (hW : Below wr.heap.size wr W) => all_any (HS.out.dt.below hW) (by
                      have h1 := HPX.out.length_eq
                      have h2 := HS.out.rx.small
                      omega)
                    have HALL := Lib.hid hall
                    have HEPX := Lib.hid (show ∀ l9 : List PK, l9.Perm (m0.map (·.1)) → RiseP l9 → l9 = LX from fun l9 h1 h2 => by rw [hLX]; exact riseP_uniq h2 (rise_P HRI.out) (h1.trans (HPX.out.map _).symm))
                    have HLX := Lib.hid hlx
                    clear hLX
                    subst epx
                    have HSD := Lib.hid (HS.out.below ((Below.refl _ wr).drew))
                    have hwd : Below wr.heap.size wr wr.drew := (Below.refl _ wr).drew
                    have HWD := Lib.hid hwd
                    have HXY := Lib.hid (show ∀ W, Below wr.heap.size wr W → W.cell? ⟨w2.heap.size, 0, none⟩ = some (.slice Ax LX.length cx) from fun W hW => (hW.cell (World.block_lt_of_cell? wr _ hx1)).trans hx1)
                    by_cases hf : f0 = 0
                    · subst hf
                      obtain ⟨L, q1, q2, q3⟩ := HY4.out rfl
                      have hL : L = mo.map (·.1) := told_eq HTO.out HRO.out q1 q2
                      rw [← hL] at epo hso
                      have q4 := own_keep q3 (fun k hk => (HKV.out k hk).2.1)
                      obtain ⟨A4, c4, e4⟩ := own_slc2 q4
                      subst e4
                      subst epo
                      have hlo : L.length ≤ 1000000 := by have := HMO.out; rw [hL, List.length_map]; omega
                      have hp0 := pairs_yes A4 Ao c4 co _ wr.drew ((Src.of_own q4).below hwd) (hso.below hwd) hlo
                      have HP0 := Lib.hid hp0
                      clear hp0 hall hlx hsx hso hx1 hwd q3 q4 q1 q2 hL
                      go_wp2_with fail
                      go_region_held3 (fun W => W.cell? ⟨w2.heap.size, 0, none⟩ = some (.slice Ax LX.length cx))
                        (first | exact HXY.out _ HWD.out | exact HXY.out _ B6.out | exact HXY.out _ B7.out | exact HXY.out _ B8.out)
                        (first
                          | (go_at_call 28; refine HP7.out.mono ?_; rintro e w8 ⟨rfl, b8⟩; have B8 := Lib.hid (B7.out.trans (b8.mono B7.out.size)); clear b8)
                          | (go_at_call 28; refine HP0.out.mono ?_; rintro e w6 ⟨rfl, b6⟩; have B6 := Lib.hid (HWD.out.trans b6); clear b6)
                          | (go_at_call 29; refine (HALL.out _ B6.out).mono ?_; rintro e w7 ⟨v7, l7, rfl, p7, r7, o7, b7⟩; have B7 := Lib.hid (B6.out.trans (b7.mono B6.out.size)); have hl7 := HEPX.out l7 p7 r7; rw [hl7] at o7; have HP7 := Lib.hid (show Calls Try.prog 28 #[v7, .slice Ax LX.length cx] w7 fun e w' => e = .returned (.bool true) ∧ Below w7.heap.size w7 w' by
                              obtain ⟨A7, c7, e7⟩ : ∃ A7 c7, v7 = .slice A7 LX.length c7 := by
                                rcases o7.2 with ⟨rfl, h0⟩ | ⟨g, cap, cur, rfl, _⟩
                                · exact ⟨none, 0, by rw [h0]⟩
                                · exact ⟨_, _, rfl⟩
                              subst e7
                              exact pairs_yes A7 Ax c7 cx _ w7 (Src.of_own o7) (HSX.out.below B7.out) HLX.out); clear p7 r7 o7 b7))
                      go_wp2_with fail
                      go_ret
                      exact ⟨rfl, HS.out.bel.trans (B8.out.mono HS.out.bel.size)⟩
                    · have hfb : (f0 != 0) = true := by simpa using hf
                      have hv4 := HN4.out hf
                      subst hv4
                      have hp0 := pairs_yes none none 0 0 [] wr.drew ⟨rfl, fun h => by simp at h⟩ ⟨rfl, fun h => by simp at h⟩ (by simp)
                      have HP0 := Lib.hid hp0
                      clear hf hp0 hall hlx hsx hso epo hx1 hwd
                      go_wp2_with fail
                      go_region_held3 (fun W => W.cell? ⟨w2.heap.size, 0, none⟩ = some (.slice Ax LX.length cx))
                        (first | exact HXY.out _ HWD.out | exact HXY.out _ B6.out | exact HXY.out _ B7.out | exact HXY.out _ B8.out)
                        (first
                          | (go_at_call_of 28 (Value.slice none 0 0); refine HP0.out.mono ?_; rintro e w6 ⟨rfl, b6⟩; have B6 := Lib.hid (HWD.out.trans b6); clear b6)
                          | (go_at_call 29; refine (HALL.out _ B6.out).mono ?_; rintro e w7 ⟨v7, l7, rfl, p7, r7, o7, b7⟩; have B7 := Lib.hid (B6.out.trans (b7.mono B6.out.size)); have hl7 := HEPX.out l7 p7 r7; rw [hl7] at o7; have HP7 := Lib.hid (show Calls Try.prog 28 #[v7, .slice Ax LX.length cx] w7 fun e w' => e = .returned (.bool true) ∧ Below w7.heap.size w7 w' by
                              obtain ⟨A7, c7, e7⟩ : ∃ A7 c7, v7 = .slice A7 LX.length c7 := by
                                rcases o7.2 with ⟨rfl, h0⟩ | ⟨g, cap, cur, rfl, _⟩
                                · exact ⟨none, 0, by rw [h0]⟩
                                · exact ⟨_, _, rfl⟩
                              subst e7
                              exact pairs_yes A7 Ax c7 cx _ w7 (Src.of_own o7) (HSX.out.below B7.out) HLX.out); clear p7 r7 o7 b7)
                          | (go_at_call 28; refine HP7.out.mono ?_; rintro e w8 ⟨rfl, b8⟩; have B8 := Lib.hid (B7.out.trans (b8.mono B7.out.size)); clear b8))
                      go_wp2_with fail
                      go_ret
                      exact ⟨rfl, HS.out.bel.trans (B8.out.mono HS.out.bel.size)⟩
              · have hil2 : ¬ (i : Int) < (ch.length : Int) := by omega
                clear hgo
                go_wp2_with fail
                go_loopw [16] (fun v16 wr => ∃ (i : Nat) (po no : Value) (mo : List (PK × Int)), i ≤ ch.length ∧ v16 = .int .i64 (i : Int) ∧ Hid (S3 w1.heap.size w wr w1.heap.size w2.heap.size (w2.heap.size + 1) mv4 px2 nx2 pw nw m0 mx2 mw) ∧ Hid (RT w1.heap.size wr w4.heap.size po no mo) ∧ Hid (SeqPure.Rise mo) ∧ Hid (Told m m0 (ch.take i) mo) ∧ Hid (mo.length ≤ i) ∧ Hid (∀ k, CFoot w4.heap.size po no k → ¬ CFoot w2.heap.size px2 nx2 k) ∧ Hid (∀ k, CFoot w4.heap.size po no k → ¬ CFoot (w2.heap.size + 1) pw nw k) ∧ Hid (Kept v4 w4 wr (CFoot w4.heap.size po no)) ∧ Hid (w4.heap.size ≤ wr.heap.size)) (fun i _ => ch.length - (intOf i).toNat)
                case atStart =>
                  refine ⟨0, _, _, [], by omega, rfl, HS, Lib.hid ⟨HKO.out, rfl, rfl, by decide, by decide, World.ownsRow_nil _ _ _ _, World.ownsRow_nil _ _ _ _, by simp, (fun _ h => by cases h), List.nodup_nil⟩, Lib.hid List.Pairwise.nil, Lib.hid (Told.nil _ _), Lib.hid (by simp), Lib.hid ?_, Lib.hid ?_, Lib.hid (fun k hk => ?_), Lib.hid (Nat.le_of_lt (block_lt HKO.out))⟩
                  · rintro k (rfl | hk | hk)
                    · exact HNX.out
                    · cases hk
                    · cases hk
                  · rintro k (rfl | hk | hk)
                    · exact HNW.out
                    · cases hk
                    · cases hk
                  · obtain ⟨h1, h2, h3⟩ := HKV.out k hk
                    refine ⟨h1, h2, ?_⟩
                    rintro (h4 | h4 | h4)
                    · omega
                    · cases h4
                    · cases h4
                case round =>
                  clear HS HKO HNX HKV
                  obtain ⟨i, po, no, mo, hi, rfl, HS, HO, HRO, HTL, HMO, HAX, HAW, HKV, HSZ⟩ := hrel
                  have hi0 : (0 : Int) ≤ (i : Int) := by omega
                  by_cases hlt : i < ch.length
                  · have hil2 : (i : Int) < (ch.length : Int) := by omega
                    have hx := List.getElem?_eq_getElem hlt
                    have hgx := HG2.out _ (List.getElem_mem hlt)
                    generalize ch[i] = x at hx hgx
                    obtain ⟨⟨x1, x2⟩, xb⟩ := x
                    obtain ⟨ad, rfl, y0, y1, y2⟩ := at_Step HR2.out hx
                    simp only at y0 y1 y2 hgx
                    replace y0 := (HS.out.bel.cell (World.block_lt_of_cell? w _ y0)).trans y0
                    replace y1 := (HS.out.bel.cell (World.block_lt_of_cell? w _ y1)).trans y1
                    obtain ⟨hpx, hbx⟩ := hgx
                    have g0 := fun g => Ext.cell (u := .int .i64 x1) y0 g
                    have g1 := fun g => Ext.cell (u := .int .i64 x2) y1 g
                    have hgX := fun V (hV : Below wr.heap.size wr V) => rget_any (HS.out.rx.below hV) (x1, x2)
                    have hgW := fun V (hV : Below wr.heap.size wr V) => rget_any (HS.out.rw.below hV) (x1, x2)
                    have hgO := fun V (hV : Below wr.heap.size wr V) => rget_any (HO.out.below hV) (x1, x2)
                    rw [resP HS.out.dt.nd HPX.out] at hgX
                    rw [resP HND.out HST.out.pw] at hgW
                    rw [HTL.out.res] at hgO
                    unfold vP at hgX hgW hgO
                    have HX := Lib.hid (take_at hx)
                    have HPP := Lib.hid hpx
                    have HBX := Lib.hid hbx
                    clear hx hpx hbx
                    have htail : ∀ (b c : Bool), True := fun _ _ => trivial
                    by_cases hne : Delta.res m0 (x1, x2) = Delta.res m (x1, x2)
                    · have HNE := Lib.hid hne
                      obtain ⟨a, ha⟩ : ∃ a, Delta.res m (x1, x2) = a := ⟨_, rfl⟩
                      have hd : Delta.res m0 (x1, x2) = a := hne.trans ha
                      have hab : (a != a) = false := by simp
                      have hab2 : (a == a) = true := by simp
                      rw [ha] at hgW
                      rw [hd] at hgX
                      obtain ⟨c, hcc⟩ : ∃ c : Int, (if (x1, x2) ∈ mo.map (·.1) then (1 : Int) else 0) = c := ⟨_, rfl⟩
                      rw [hcc] at hgO
                      have HYY := Lib.hid (And.intro y0 y1)
                      clear hne ha hd hcc y0 y1 htail
                      have HGX := Lib.hid hgX
                      have HGW := Lib.hid hgW
                      have HWD := Lib.hid (show Below wr.heap.size wr wr.drew from (Below.refl _ wr).drew)
                      have HY := Lib.hid (show ∀ V, Below wr.heap.size wr V → (V.cell? (ad.add (i * 3)) = some (.int .i64 x1) ∧ V.cell? ⟨(ad.add (i * 3)).block, (ad.add (i * 3)).off + 1, none⟩ = some (.int .i64 x2)) from fun V hV => ⟨(hV.cell (World.block_lt_of_cell? wr _ HYY.out.1)).trans HYY.out.1, (hV.cell (World.block_lt_of_cell? wr _ HYY.out.2)).trans HYY.out.2⟩)
                      clear hgX hgW hgO HYY HY HWD
                      go_wp2_with fail
                      refine wp_region_ext (by kernel_rfl) (by kernel_rfl) ?_
                      repeat (quiet_step (first | (go_at_call_of 26 (Value.pointer (some ⟨w2.heap.size, 0, none⟩)); exact ext_of (HGX.out _ (Ext.below _)))))
                      quiet_step (first | (go_at_call 26; exact ext_of (HGW.out _ (Ext.below _))))
                      clear HGX HGW
                      refine Boxd.out ?_
                      refine wpQuiet_stepO (fun K hK => ?_)
                      go_simp
                      refine hK _ ?_
                      clear hK K
                      refine wpQuiet_stepO (fun K hK => ?_)
                      go_simp
                      refine hK _ ?_
                      clear hK K
                      refine wpQuiet_skipO (by kernel_rfl) ?_
                      simp only [Act.put, List.setIfInBounds_toArray, List.set_cons_zero, List.set_cons_succ]
                      refine wpQuiet_skipO (by kernel_rfl) ?_
                      simp only [Act.put, List.setIfInBounds_toArray, List.set_cons_zero, List.set_cons_succ]
                      refine wpQuiet_skipO (by kernel_rfl) ?_
                      simp only [Act.put, List.setIfInBounds_toArray, List.set_cons_zero, List.set_cons_succ]
                      refine wpQuiet_skipO (by kernel_rfl) ?_
                      simp only [Act.put, List.setIfInBounds_toArray, List.set_cons_zero, List.set_cons_succ]
                      refine wpQuiet_skipO (by kernel_rfl) ?_
                      simp only [Act.put, List.setIfInBounds_toArray, List.set_cons_zero, List.set_cons_succ]
                      refine wpQuiet_skipO (by kernel_rfl) ?_
                      simp only [Act.put, List.setIfInBounds_toArray, List.set_cons_zero, List.set_cons_succ]
                      refine wpQuiet_skipO (by kernel_rfl) ?_
                      simp only [Act.put, List.setIfInBounds_toArray, List.set_cons_zero, List.set_cons_succ]
                      refine wpQuiet_skipO (by kernel_rfl) ?_
                      simp only [Act.put, List.setIfInBounds_toArray, List.set_cons_zero, List.set_cons_succ]
                      refine wpQuiet_stepO (fun K hK => ?_)
                      go_simp
                      refine hK _ ?_
                      clear hK K
                      refine wpQuiet_nilO ?_
                      rintro w8 ⟨⟨w9, b9⟩, he⟩
                      have he2 : w8 = w9 := he
                      subst he2
                      have HS8 := Lib.hid (HS.out.below b9)
                      have HO8 := Lib.hid (HO.out.below b9)
                      have HKV8 := Lib.hid (HKV.out.below HSZ.out b9)
                      have HSZ8 := Lib.hid (Nat.le_trans HSZ.out b9.size)
                      clear b9 he g0 g1
                      go_wp2_with fail
                      go_roundw
                      case rel => exact ⟨i + 1, po, no, mo, by omega, by go_num, HS8, HO8, HRO, Lib.hid (by rw [HX.out]; exact HTL.out.skip (.inl HNE.out.symm)), Lib.hid (Nat.le_succ_of_le HMO.out), HAX, HAW, HKV8, HSZ8⟩
                      case measure => simp [intOf]; omega
                    · have HNE := Lib.hid hne
                      obtain ⟨a, ha⟩ : ∃ a, Delta.res m (x1, x2) = a := ⟨_, rfl⟩
                      obtain ⟨d, hd⟩ : ∃ d, Delta.res m0 (x1, x2) = d := ⟨_, rfl⟩
                      have hab : (d != a) = true := by rw [ha, hd] at hne; simpa using hne
                      rw [ha] at hgW
                      rw [hd] at hgX
                      by_cases hin : (x1, x2) ∈ mo.map (·.1)
                      · rw [if_pos hin] at hgO
                        have HIN := Lib.hid hin
                        clear hne ha hd hin y0 y1 htail
                        go_wp2_with fail
                        refine wp_region_ext (by kernel_rfl) (by kernel_rfl) ?_
                        repeat (quiet_step (first | (go_at_call_of 26 (Value.pointer (some ⟨w2.heap.size, 0, none⟩)); exact ext_of (hgX _ (Ext.below _)))))
                        quiet_step (first | (go_at_call 26; exact ext_of (hgW _ (Ext.below _))))
                        clear hgX hgW
                        repeat (quiet_step (first | (go_at_call_of 26 (Value.pointer (some ⟨w4.heap.size, 0, none⟩)); exact ext_of (hgO _ (Ext.below _)))))
                        refine wpQuiet_nil ?_
                        rintro w8 ⟨⟨w9, b9⟩, he⟩
                        have he2 : w8 = w9 := he
                        subst he2
                        have HS8 := Lib.hid (HS.out.below b9)
                        have HO8 := Lib.hid (HO.out.below b9)
                        have HKV8 := Lib.hid (HKV.out.below HSZ.out b9)
                        have HSZ8 := Lib.hid (Nat.le_trans HSZ.out b9.size)
                        clear he b9 g0 g1 hgO
                        go_wp2_with fail
                        go_roundw
                        case rel => exact ⟨i + 1, po, no, mo, by omega, by go_num, HS8, HO8, HRO, Lib.hid (by rw [HX.out]; exact HTL.out.skip (.inr HIN.out)), Lib.hid (Nat.le_succ_of_le HMO.out), HAX, HAW, HKV8, HSZ8⟩
                        case measure => simp [intOf]; omega
                      · rw [if_neg hin] at hgO
                        have HRES := Lib.hid (show Delta.res mo (x1, x2) = 0 by rw [HTL.out.res, if_neg hin])
                        have HYY := Lib.hid (And.intro y0 y1)
                        clear hne ha hd hin y0 y1 htail
                        go_wp2_with fail
                        refine wp_region_ext (by kernel_rfl) (by kernel_rfl) ?_
                        repeat (quiet_step (first | (go_at_call_of 26 (Value.pointer (some ⟨w2.heap.size, 0, none⟩)); exact ext_of (hgX _ (Ext.below _)))))
                        quiet_step (first | (go_at_call 26; exact ext_of (hgW _ (Ext.below _))))
                        clear hgX hgW
                        repeat (quiet_step (first | (go_at_call_of 26 (Value.pointer (some ⟨w4.heap.size, 0, none⟩)); exact ext_of (hgO _ (Ext.below _)))))
                        refine wpQuiet_nil ?_
                        rintro w8 ⟨⟨w9, b9⟩, he⟩
                        have he2 : w8 = w9 := he
                        subst he2
                        have HS8 := Lib.hid (HS.out.below b9)
                        have HO8 := Lib.hid (HO.out.below b9)
                        have HKV8 := Lib.hid (HKV.out.below HSZ.out b9)
                        have HSZ8 := Lib.hid (Nat.le_trans HSZ.out b9.size)
                        have y0 := (b9.cell (World.block_lt_of_cell? wr _ HYY.out.1)).trans HYY.out.1
                        have y1 := (b9.cell (World.block_lt_of_cell? wr _ HYY.out.2)).trans HYY.out.2
                        have hradd := RefCnt.radd_any HO8.out HS8.out.hBW (by have := HMO.out; omega) (x1, x2) HPP.out 1 1 (by unfold In64; omega) (by unfold In64; omega) (by rw [HRES.out]; omega)
                        have hae : addE mo (x1, x2) 1 1 = (0, putL mo (x1, x2) 1) := by
                          unfold addE
                          rw [if_neg (by omega), HRES.out]
                          have hs : sumD 0 1 1 = some 1 := by unfold sumD; rw [if_pos (by omega)]; rfl
                          rw [hs]
                          show (0, setL mo (x1, x2) 1) = _
                          unfold setL
                          rw [if_neg (by omega)]
                        unfold AddOut at hradd
                        rw [hae] at hradd
                        unfold vP at hradd
                        have HRADD := Lib.hid hradd
                        clear he b9 g0 g1 hgO HYY hradd hae
                        go_wp2_with fail
                        refine HRADD.out.mono ?_
                        rintro e w7 ⟨rfl, po7, no7, mo7, r7, p7, s7, u7⟩
                        have HS7 := Lib.hid (HS8.out.keep (W1 := w7) (fun k hk => u7.block k (by
                          rcases hk with hk | hk | hk
                          · exact HS8.out.dt.lt k hk
                          · exact HS8.out.rx.lt k hk
                          · exact HS8.out.rw.lt k hk) (fun ho => by
                          rcases hk with hk | hk | hk
                          · exact cd_apart HS8.out.dt HO8.out k ho hk
                          · exact HAX.out k ho hk
                          · exact HAW.out k ho hk)) (HS8.out.bel.trans (u7.below HS8.out.bel.size (fun k hk => Nat.le_trans HS8.out.hB (rt_ge HO8.out HB4.out k hk)))) u7.size)
                        have HAX7 := Lib.hid (show ∀ k, CFoot w4.heap.size po7 no7 k → ¬ CFoot w2.heap.size px2 nx2 k from fun k ho hx => u7.apart HS8.out.rx.lt (fun k hx ho => HAX.out k ho hx) k hx ho)
                        have HAW7 := Lib.hid (show ∀ k, CFoot w4.heap.size po7 no7 k → ¬ CFoot (w2.heap.size + 1) pw nw k from fun k ho hx => u7.apart HS8.out.rw.lt (fun k hx ho => HAW.out k ho hx) k hx ho)
                        have HO7 := Lib.hid r7
                        have HKV7 := Lib.hid (HKV8.out.upd HSZ8.out u7)
                        have HSZ7 := Lib.hid (Nat.le_trans HSZ8.out u7.size)
                        have HRO7 := Lib.hid (s7 HRO.out)
                        have HTL7 := Lib.hid (HTL.out.more (x := ((x1, x2), xb)) (fun e => HNE.out e.symm) p7)
                        have HML7 := Lib.hid (show mo7.length ≤ i + 1 by
                          have h1 := p7.length_eq
                          have h2 := Delta.put_le mo (x1, x2) 1
                          have h3 := HMO.out
                          omega)
                        clear HRADD r7 p7 s7 u7
                        go_wp2_with fail
                        go_roundw
                        case rel => exact ⟨i + 1, po7, no7, mo7, by omega, by go_num, HS7, HO7, HRO7, Lib.hid (by rw [HX.out]; exact HTL7.out), HML7, HAX7, HAW7, HKV7, HSZ7⟩
                        case measure => simp [intOf]; omega
                  · obtain rfl : i = ch.length := by omega
                    have hnl : ¬ (ch.length : Int) < (ch.length : Int) := by omega
                    have hto := HTL.out
                    rw [List.take_length] at hto
                    have HTO := Lib.hid hto
                    clear hto
                    have ho1 := HO.out.cp
                    have hx1 := HS.out.rx.cp
                    have HX1 := Lib.hid hx1
                    obtain ⟨Ax, cx, epx, hsx⟩ := src_rt HS.out.rx
                    obtain ⟨LX, hLX⟩ : ∃ LX, LX = mx2.map (·.1) := ⟨_, rfl⟩
                    have hlx : LX.length ≤ 1000000 := by
                      have h2 := HS.out.rx.small
                      rw [hLX, List.length_map]; omega
                    rw [← hLX] at epx hsx
                    obtain ⟨Ao, co, epo, hso⟩ := src_rt HO.out
                    have HSX := Lib.hid hsx
                    have hall := fun (W : World) (hW : Below wr.heap.size wr W) => all_any (HS.out.dt.below hW) (by
                      have h1 := HPX.out.length_eq
                      have h2 := HS.out.rx.small
                      omega)
                    have HALL := Lib.hid hall
                    have HEPX := Lib.hid (show ∀ l9 : List PK, l9.Perm (m0.map (·.1)) → RiseP l9 → l9 = LX from fun l9 h1 h2 => by rw [hLX]; exact riseP_uniq h2 (rise_P HRI.out) (h1.trans (HPX.out.map _).symm))
                    have HLX := Lib.hid hlx
                    clear hLX
                    subst epx
                    have HSD := Lib.hid (HS.out.below ((Below.refl _ wr).drew))
                    have hwd : Below wr.heap.size wr wr.drew := (Below.refl _ wr).drew
                    have HWD := Lib.hid hwd
                    have HXY := Lib.hid (show ∀ W, Below wr.heap.size wr W → W.cell? ⟨w2.heap.size, 0, none⟩ = some (.slice Ax LX.length cx) from fun W hW => (hW.cell (World.block_lt_of_cell? wr _ hx1)).trans hx1)
                    by_cases hf : f0 = 0
                    · subst hf
                      obtain ⟨L, q1, q2, q3⟩ := HY4.out rfl
                      have hL : L = mo.map (·.1) := told_eq HTO.out HRO.out q1 q2
                      rw [← hL] at epo hso
                      have q4 := own_keep q3 (fun k hk => (HKV.out k hk).2.1)
                      obtain ⟨A4, c4, e4⟩ := own_slc2 q4
                      subst e4
                      subst epo
                      have hlo : L.length ≤ 1000000 := by have := HMO.out; rw [hL, List.length_map]; omega
                      have hp0 := pairs_yes A4 Ao c4 co _ wr.drew ((Src.of_own q4).below hwd) (hso.below hwd) hlo
                      have HP0 := Lib.hid hp0
                      clear hp0 hall hlx hsx hso hx1 hwd q3 q4 q1 q2 hL
                      go_wp2_with fail
                      go_region_held3 (fun W => W.cell? ⟨w2.heap.size, 0, none⟩ = some (.slice Ax LX.length cx))
                        (first | exact HXY.out _ HWD.out | exact HXY.out _ B6.out | exact HXY.out _ B7.out | exact HXY.out _ B8.out)
                        (first
                          | (go_at_call 28; refine HP7.out.mono ?_; rintro e w8 ⟨rfl, b8⟩; have B8 := Lib.hid (B7.out.trans (b8.mono B7.out.size)); clear b8)
                          | (go_at_call 28; refine HP0.out.mono ?_; rintro e w6 ⟨rfl, b6⟩; have B6 := Lib.hid (HWD.out.trans b6); clear b6)
                          | (go_at_call 29; refine (HALL.out _ B6.out).mono ?_; rintro e w7 ⟨v7, l7, rfl, p7, r7, o7, b7⟩; have B7 := Lib.hid (B6.out.trans (b7.mono B6.out.size)); have hl7 := HEPX.out l7 p7 r7; rw [hl7] at o7; have HP7 := Lib.hid (show Calls Try.prog 28 #[v7, .slice Ax LX.length cx] w7 fun e w' => e = .returned (.bool true) ∧ Below w7.heap.size w7 w' by
                              obtain ⟨A7, c7, e7⟩ : ∃ A7 c7, v7 = .slice A7 LX.length c7 := by
                                rcases o7.2 with ⟨rfl, h0⟩ | ⟨g, cap, cur, rfl, _⟩
                                · exact ⟨none, 0, by rw [h0]⟩
                                · exact ⟨_, _, rfl⟩
                              subst e7
                              exact pairs_yes A7 Ax c7 cx _ w7 (Src.of_own o7) (HSX.out.below B7.out) HLX.out); clear p7 r7 o7 b7))
                      go_wp2_with fail
                      go_ret
                      exact ⟨rfl, HS.out.bel.trans (B8.out.mono HS.out.bel.size)⟩
                    · have hfb : (f0 != 0) = true := by simpa using hf
                      have hv4 := HN4.out hf
                      subst hv4
                      have hp0 := pairs_yes none none 0 0 [] wr.drew ⟨rfl, fun h => by simp at h⟩ ⟨rfl, fun h => by simp at h⟩ (by simp)
                      have HP0 := Lib.hid hp0
                      clear hf hp0 hall hlx hsx hso epo hx1 hwd
                      go_wp2_with fail
                      go_region_held3 (fun W => W.cell? ⟨w2.heap.size, 0, none⟩ = some (.slice Ax LX.length cx))
                        (first | exact HXY.out _ HWD.out | exact HXY.out _ B6.out | exact HXY.out _ B7.out | exact HXY.out _ B8.out)
                        (first
                          | (go_at_call_of 28 (Value.slice none 0 0); refine HP0.out.mono ?_; rintro e w6 ⟨rfl, b6⟩; have B6 := Lib.hid (HWD.out.trans b6); clear b6)
                          | (go_at_call 29; refine (HALL.out _ B6.out).mono ?_; rintro e w7 ⟨v7, l7, rfl, p7, r7, o7, b7⟩; have B7 := Lib.hid (B6.out.trans (b7.mono B6.out.size)); have hl7 := HEPX.out l7 p7 r7; rw [hl7] at o7; have HP7 := Lib.hid (show Calls Try.prog 28 #[v7, .slice Ax LX.length cx] w7 fun e w' => e = .returned (.bool true) ∧ Below w7.heap.size w7 w' by
                              obtain ⟨A7, c7, e7⟩ : ∃ A7 c7, v7 = .slice A7 LX.length c7 := by
                                rcases o7.2 with ⟨rfl, h0⟩ | ⟨g, cap, cur, rfl, _⟩
                                · exact ⟨none, 0, by rw [h0]⟩
                                · exact ⟨_, _, rfl⟩
                              subst e7
                              exact pairs_yes A7 Ax c7 cx _ w7 (Src.of_own o7) (HSX.out.below B7.out) HLX.out); clear p7 r7 o7 b7)
                          | (go_at_call 28; refine HP7.out.mono ?_; rintro e w8 ⟨rfl, b8⟩; have B8 := Lib.hid (B7.out.trans (b8.mono B7.out.size)); clear b8))
                      go_wp2_with fail
                      go_ret
                      exact ⟨rfl, HS.out.bel.trans (B8.out.mono HS.out.bel.size)⟩
theorem walk (W : World) (A : Option Addr) (cp : Nat) (l : List Dl) (hr : Kd.C kDeed W A l.length l) (hc : l.length ≤ cp) (hg : ∀ x ∈ l, ((In64 x.1.1.1 ∧ In64 x.1.1.2) ∧ In64 x.1.2) ∧ In64 x.2) (hsz : l.length * 32 ≤ reachBytes)
    (A2 : Option Addr) (cp2 : Nat) (ch : List (PK × Int)) (hr2 : Kd.C kStep W A2 ch.length ch) (hc2 : ch.length ≤ cp2) (hg2 : ∀ x ∈ ch, (In64 x.1.1 ∧ In64 x.1.2) ∧ In64 x.2) (hsz2 : ch.length * 24 ≤ reachBytes) (t : Int) (ht : (Lit.int .i64 t).wf = true) :
    Calls Try.prog 8 #[.slice A l.length cp, .slice A2 ch.length cp2, .int .i64 t] W fun e w' => e = .returned (.bool true) ∧ Below W.heap.size W w' :=
  law_any A cp l A2 cp2 ch t W hr hc (by unfold reachBytes at hsz; unfold maxLen; omega) hg hr2 hc2 (by unfold reachBytes at hsz2; unfold maxLen; omega) hg2 (of_wf ht)
end Go.Proofs.Ytaecngdabgnamaa.DeltaApplies
