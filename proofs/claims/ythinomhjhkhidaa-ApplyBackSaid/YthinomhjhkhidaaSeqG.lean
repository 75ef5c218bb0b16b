/- Layer 11: the ledger of changes: add, and note, walked. -/
import Derived.Test.YthinomhjhkhidaaSeq
namespace Go.Proofs.Ythinomhjhkhidaa.SeqM
open Go.RowKit Go.Maps Go.Proofs.YthinomhjhkhidaaW.PrintWords Go.Proofs.YthinomhjhkhidaaW.PrintLast Go.Proofs.YthinomhjhkhidaaW.PrintMore Base Foot ExtTail PMap SeqPure
set_option linter.unusedVariables false
set_option linter.unusedSimpArgs false
attribute [local go_sem ↓] Go.wp_at_zero Go.wp_at_succ

abbrev tG : TypeId := 132
def addL (m : List (PK × Int)) (p : PK) (d : Int) : List (PK × Int) := if lv m p + d = 0 then dropL m p else putL m p (lv m p + d)
theorem lv_addL (m : List (PK × Int)) (p : PK) (d : Int) (q : PK) : lv (addL m p d) q = lv m q + if p = q then d else 0 := by
  unfold addL
  by_cases e : p = q
  · subst e
    rw [if_pos rfl]
    by_cases h : lv m p + d = 0
    · rw [if_pos h, h]; unfold lv; rw [look_drop_same]; rfl
    · rw [if_neg h]; unfold lv; rw [look_put_same]; rfl
  · rw [if_neg e, Int.add_zero]
    by_cases h : lv m p + d = 0
    · rw [if_pos h]; unfold lv; rw [look_drop_other (Ne.symm e)]
    · rw [if_neg h]; unfold lv; rw [look_put_other _ (Ne.symm e)]
theorem nz_addL {m : List (PK × Int)} (h : NZ m) (p : PK) (d : Int) : NZ (addL m p d) := by
  unfold addL
  by_cases e : lv m p + d = 0
  · rw [if_pos e]; exact fun x hx => h x (List.mem_filter.1 hx).1
  · rw [if_neg e]
    intro x hx
    rcases List.mem_cons.1 hx with rfl | hx
    · exact e
    · exact h x (List.mem_filter.1 hx).1
theorem len_addL (m : List (PK × Int)) (p : PK) (d : Int) : (addL m p d).length ≤ m.length + 1 := by
  have : (dropL m p).length ≤ m.length := List.length_filter_le _ _
  unfold addL putL
  split
  · omega
  · rw [List.length_cons]; omega
set_option maxHeartbeats 1600000 in
set_option maxRecDepth 100000 in
theorem add_any {w : World} {mb : Nat} {m : List (PK × Int)} (h : PM w mb m) (hl : m.length ≤ 900000) (p : PK) (hp : P64 p) (d : Int) (hs : In64 (lv m p + d)) :
    Calls Try.prog 105 #[.map (some mb), vP p, .int .i64 d] w fun e w' => e = .returned (.tuple #[]) ∧ PM w' mb (addL m p d) ∧ Upd (fun k => k = mb) (fun k => k = mb) w w' := by
  have hT : Try.prog.underlying tG = some (.map 94 3) := Try.underlying132
  obtain ⟨p1, p2⟩ := p
  have b0 : Below w.heap.size w (w.alloc (.cells #[.int .i64 p1, .int .i64 p2] 94)) := (Below.refl _ _).alloc (Nat.le_refl _) _
  have x0 := heap_alloc_new w (.cells #[.int .i64 p1, .int .i64 p2] 94)
  have h0 : PM (w.alloc (.cells #[.int .i64 p1, .int .i64 p2] 94)).drew mb m := (h.below b0).keep rfl
  have hmw : mb < w.heap.size := h.lt
  have hlv : ∀ m' : List (PK × Int), (PMap.look m' (p1, p2)).getD 0 = lv m' (p1, p2) := fun _ => rfl
  obtain ⟨c, hc⟩ : ∃ c, lv m (p1, p2) = c := ⟨_, rfl⟩
  rw [hc] at hs
  obtain ⟨v0, st, W1, r1, ⟨L1, q1, e1⟩, g1, s1, hst⟩ := PM.entry hT h0 (by omega) hp
  obtain ⟨W2, r2, q2, g2, s2⟩ := hst (c + d) hs
  have l0 := PM.look_run_t hT h0 hp
  have l1 := PM.look_run_t hT q1 hp
  have l2 := PM.look_run_t hT q2 hp
  rw [e1] at l1
  rw [look_put_same, Option.getD_some] at l2
  rw [hlv, hc] at l0 l1
  have x1 := (g1.block w.heap.size (by simp) (by intro e; cases e; omega)).trans x0
  have x2 := (g2.block w.heap.size (by simp) (by intro e; cases e; omega)).trans x0
  have y0 := cell_at x0 0
  have y1 := cell_at x0 1
  have z0 := cell_at x1 0
  have z1 := cell_at x1 1
  have u0 := cell_at x2 0
  have u1 := cell_at x2 1
  simp only [List.getElem?_toArray, List.getElem?_cons_zero, List.getElem?_cons_succ] at y0 y1 z0 z1 u0 u1
  have Q2 := Lib.hid q2
  have G2 := Lib.hid g2
  have X2 := Lib.hid x2
  have B0 := Lib.hid b0
  have hd1 := hs.1
  have hd2 := hs.2
  have HC := Lib.hid hc
  have HM := Lib.hid hmw
  unfold vP at r1 l0 l1 l2
  unfold goInt at r1 r2
  simp only at r1 r2 l0 l1 l2
  clear h h0 q1 q2 g1 g2 x0 x1 x2 b0 hst s1 s2 e1 hlv hc hmw hs
  unfold vP
  by_cases hz : c + d = 0
  · have hzb : (c + d == 0) = true := by simpa using hz
    have HZ := Lib.hid hz
    clear hz
    go_enter Try.func105, Try.ntmps105
    go_wp2_with fail
    go_region
    all_goals
      go_wp2_with (at_delete; refine wp_drop_t hT rfl _ _ rfl rfl Q2.out rfl hp ?_; intro w4 q4 g4)
      go_end0
      refine ⟨rfl, ?_, (((Upd.of_below B0.out).drew).trans (Upd.grown G2.out (fun k e => by cases e; rfl))).trans (Upd.grown g4 (fun k e => by cases e; rfl))⟩
      unfold addL
      rw [HC.out, if_pos HZ.out]
      exact q4.perm (by unfold putL dropL; simp [List.filter_filter])
  · have hzb : (c + d == 0) = false := by simpa using hz
    have HZ := Lib.hid hz
    clear hz
    go_enter Try.func105, Try.ntmps105
    go_wp2_with fail
    go_region
    all_goals
      go_wp2_with fail
      go_end0
      refine ⟨rfl, ?_, ((Upd.of_below B0.out).drew).trans (Upd.grown G2.out (fun k e => by cases e; rfl))⟩
      unfold addL
      rw [HC.out, if_neg HZ.out]
      exact Q2.out
def addO (m : List (PK × Int)) (o : Option PK) (d : Int) : List (PK × Int) := match o with | none => m | some p => addL m p d
def PA (C : List Cel) (i : Int) (o : Option PK) : Prop := match o with
  | none => i < 0 ∨ ∃ (k : Nat) (s p : Int), i = (k : Int) ∧ C[k]? = some (s, p, -1)
  | some q => ∃ (k j : Nat) (p p' n' : Int), i = (k : Int) ∧ C[k]? = some (q.1, p, (j : Int)) ∧ C[j]? = some (q.2, p', n')
theorem pair_no {B : Nat} {w : World} {b : Nat} {sv : Value} {C : List Cel} {X : List Knot} (h : SeqT B w b sv C X) {i : Int} (hp : PA C i none) :
    Calls Try.prog 79 #[.pointer (some ⟨b, 0, none⟩), .int .i64 i] w fun e w' => e = .returned (.tuple #[vP (0, 0), .bool false]) ∧ Below w.heap.size w w' := by
  rcases hp with hp | ⟨k, s, p, rfl, hk⟩
  · exact pair_neg h i hp
  · exact pair_last h hk
theorem pair_yes {B : Nat} {w : World} {b : Nat} {sv : Value} {C : List Cel} {X : List Knot} (h : SeqT B w b sv C X) {i : Int} {q : PK} (hp : PA C i (some q)) :
    Calls Try.prog 79 #[.pointer (some ⟨b, 0, none⟩), .int .i64 i] w fun e w' => e = .returned (.tuple #[vP q, .bool true]) ∧ Below w.heap.size w w' := by
  obtain ⟨k, j, p, p', n', rfl, h1, h2⟩ := hp
  exact pair_some h h1 h2
set_option maxHeartbeats 800000 in
set_option maxRecDepth 100000 in
theorem note_any {B : Nat} {w : World} {b : Nat} {sv : Value} {C : List Cel} {X : List Knot} (h : SeqT B w b sv C X) {i : Int} {o : Option PK} (hp : PA C i o) {mb : Nat} {m : List (PK × Int)} (hm : PM w mb m) (hl : m.length ≤ 900000) (d : Int) (ho : ∀ q, o = some q → P64 q ∧ In64 (lv m q + d)) :
    Calls Try.prog 89 #[.pointer (some ⟨b, 0, none⟩), .map (some mb), .int .i64 i, .int .i64 d] w fun e w' => e = .returned (.tuple #[]) ∧ PM w' mb (addO m o d) ∧ Upd (fun k => k = mb) (fun k => k = mb) w w' := by
  cases o with
  | none =>
    have hc := Lib.hid (pair_no h hp)
    have HM := Lib.hid hm
    clear h hp ho hm
    go_enter Try.func89, Try.ntmps89
    go_wp2_with fail
    refine hc.out.mono ?_
    rintro e w1 ⟨rfl, b1⟩
    unfold vP
    go_wp2_with fail
    go_end0
    have b2 := b1.alloc b1.size (.cells #[.int .i64 0, .int .i64 0] 94)
    exact ⟨rfl, HM.out.below b2, Upd.of_below b2⟩
  | some q =>
    obtain ⟨hq, hs⟩ := ho q rfl
    have hc := Lib.hid (pair_yes h hp)
    have HM := Lib.hid hm
    have HS := Lib.hid hs
    have HQ := Lib.hid hq
    clear h hp ho hm hs hq
    go_enter Try.func89, Try.ntmps89
    go_wp2_with fail
    refine hc.out.mono ?_
    rintro e w1 ⟨rfl, b1⟩
    obtain ⟨q1, q2⟩ := q
    have b2 := b1.alloc b1.size (.cells #[.int .i64 q1, .int .i64 q2] 94)
    have x2 := heap_alloc_new w1 (.cells #[.int .i64 q1, .int .i64 q2] 94)
    have y0 := cell_at x2 0
    have y1 := cell_at x2 1
    simp only [List.getElem?_toArray, List.getElem?_cons_zero, List.getElem?_cons_succ] at y0 y1
    have hadd := Lib.hid (add_any (HM.out.below b2) hl (q1, q2) HQ.out d HS.out)
    have B2 := Lib.hid b2
    clear b1 b2 x2
    unfold vP at hadd ⊢
    go_wp2_with fail
    refine hadd.out.mono ?_
    rintro e w3 ⟨rfl, p3, u3⟩
    go_wp2_with fail
    go_end0
    exact ⟨rfl, p3, (Upd.of_below B2.out).trans u3⟩
end Go.Proofs.Ythinomhjhkhidaa.SeqM
