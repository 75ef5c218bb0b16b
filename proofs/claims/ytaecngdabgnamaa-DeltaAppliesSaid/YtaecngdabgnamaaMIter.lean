/- Maps from pairs to whole numbers: a range over one inside a fence; maps.Keys of one, and its iterator, walked. -/
import Derived.Test.YtaecngdabgnamaaMMapT
import Derived.Sort.MapsRangeIn
import Derived.WalkKit
import Derived.OwnWalkIn
import Derived.TacticsInMore
import Derived.RegionIn
import Derived.LoopNIn
import Derived.LoopIn
import Derived.RangeFuncNested
import Derived.Laws.IdiomRangeMap
namespace Go.Proofs.Ytaecngdabgnamaa.PMap
open Go.RowKit Go.Maps Go.WideMaps Base Foot
set_option linter.unusedVariables false
set_option linter.unusedSimpArgs false

section
variable {F : Fence} {n : Nat} {ops : Array Oper} {rest' : List Oper} {o : Oper} {a : Act} {Q : Exit → Act → World → Prop} {w : World}
/-- range m, inside a fence -/
theorem wpIn_range_t {T : TypeId} (hT : Try.prog.underlying T = some (.map 23 3)) (hg : o.guard = none) (m : Operand) (hop : o.op = Op.range T m) {mb : Nat} {K : List (PK × Int)} (hm : a.eval m = .map (some mb)) (h : PM w mb K)
    (hK : ∀ w', RG w' mb w.heap.size K [] K K.length → w.grownBy w' none → w'.heap.size = w.heap.size + 1 → wpListIn F n Try.prog ops Q rest' (a.put o.dst (.pointer (some ⟨w.heap.size, 0, none⟩))) w') : wpListIn F n Try.prog ops Q (o :: rest') a w := by
  obtain ⟨D, h1, h2⟩ := h
  refine wpListIn_range_own w hg m _ hop _ _ kyd hT _ mb _ D hm h1 fun w' r1 r2 r3 => hK w' ?_ r2 r3
  rw [h2.size] at r1
  exact ⟨D, _, _, r1, h2, fun p hp => h2.has_ p hp, by simp⟩
/-- the next entry -/
theorem wpIn_next (hg : o.guard = none) (it : Operand) (hop : o.op = Op.next it false) {b r cnt : Nat} {K acc rest : List (PK × Int)} (hit : a.eval it = .pointer (some ⟨r, 0, none⟩)) (h : RG w b r K acc rest cnt)
    (hDone : rest = [] → wpListIn F n Try.prog ops Q rest' (a.put o.dst (.tuple #[.bool false])) w)
    (hMore : ∀ (x : PK) (c : Int) (rest2 : List (PK × Int)) (w' : World) (cnt' : Nat), P64 x → In64 c → (x, c) ∈ rest → RG w' b r K (acc ++ [(x, c)]) rest2 cnt' → cnt' < cnt → w.grownBy w' (some r) → w'.heap.size = w.heap.size →
      (Instr.entry (.pointer (some ⟨r, 0, none⟩))).run Try.prog w' = .ok (.tuple #[vP x, .int .i64 c]) w' → wpListIn F n Try.prog ops Q rest' (a.put o.dst (.tuple #[.bool true, vP x, .int .i64 c])) w') :
    wpListIn F n Try.prog ops Q (o :: rest') a w := by
  obtain ⟨D, nn, left, h1, h2, h3, h4⟩ := h
  have hal : Al rest := fun x hx => h2.al x (h4.mem_iff.1 (List.mem_append_right _ hx))
  have hndr : Nd rest := by
    have : Nd (acc ++ rest) := (h4.map _).nodup_iff.2 h2.nd
    unfold Nd at *
    rw [List.map_append] at this
    exact (List.nodup_append.1 this).2.1
  refine wpListIn_next_ranges w hg it hop _ kyd (plainElem Try.prog 3) vP (Value.int .i64) (fun key kl hkey => ?_) (fun v y hv => ?_) b r nn D left cnt hit h1 (fun h0 hl => hDone ?_) ?_
  · obtain ⟨p, rfl, _⟩ := key_inv hkey
    exact ⟨p, rfl⟩
  · obtain ⟨c, rfl, _⟩ := plainElem_int_inv Try.underlying3 hv
    exact ⟨c, rfl⟩
  · cases rest with
    | nil => rfl
    | cons x t =>
      have := h3 x.1 (hal x (by simp)).1
      rw [hl, look_cons, if_pos rfl] at this
      cases this
  · intro x c kl y w' cnt' hkey hlk hv hat hrg hlt hgr hsz hen
    obtain ⟨p, e1, hp, rfl⟩ := key_inv hkey
    have e2 : x = p := by
      simp [vP] at e1
      exact Prod.ext e1.1 e1.2
    subst e2
    obtain ⟨c', e3, rfl, hwc⟩ := plainElem_int_inv Try.underlying3 hv
    injection e3 with _ e3
    subst e3
    rw [h3 x hp] at hlk
    obtain ⟨c2, hc2⟩ := Option.isSome_iff_exists.1 hlk
    have hm := look_some_mem hc2
    have hmK : (x, c2) ∈ K := h4.mem_iff.1 (List.mem_append_right _ hm)
    have hlK := mem_look h2.nd hmK
    have hc := h2.at_ x hp
    rw [hat, hlK] at hc
    have e4 : c = c2 := by simpa using hc
    subst e4
    have hperm : ∀ (l : List (PK × Int)), Nd l → (x, c) ∈ l → ((x, c) :: dropL l x).Perm l := by
      intro l
      induction l with
      | nil => intro _ h; cases h
      | cons z t ih =>
        intro hd hz
        have hd2 := hd
        unfold Nd at hd2
        rw [List.map_cons, List.nodup_cons] at hd2
        by_cases e : z.1 = x
        · have ez : (x, c) = z := by
            rcases List.mem_cons.1 hz with h | h
            · exact h
            · exact absurd (by rw [e]; exact List.mem_map_of_mem (f := fun x : PK × Int => x.1) h) hd2.1
          subst ez
          have : dropL ((x, c) :: t) x = t := by
            unfold dropL
            rw [List.filter_cons_of_neg (by simp)]
            refine List.filter_eq_self.2 fun u hu => ?_
            have : u.1 ≠ x := fun e => hd2.1 (by have h9 := List.mem_map_of_mem (f := fun x : PK × Int => x.1) hu; simp only [e] at h9; exact h9)
            simpa using this
          rw [this]
        · have hz2 : (x, c) ∈ t := by
            rcases List.mem_cons.1 hz with h | h
            · exact absurd (by rw [← h]) e
            · exact h
          have : dropL (z :: t) x = z :: dropL t x := by unfold dropL; rw [List.filter_cons_of_pos (by simpa using e)]
          rw [this]
          exact (List.Perm.swap _ _ _).trans ((ih hd2.2 hz2).cons _)
    refine hMore x c (dropL rest x) w' cnt' hp (of_wf hwc) hm ⟨D, nn, _, hrg, h2, fun q hq => ?_, ?_⟩ hlt hgr hsz hen
    · by_cases e : q = x
      · rw [e, look_drop_same, WideAt.sameKey_self (plit_key x)]
        simp
      · have : (plit q).sameKey (plit x) = false := sameKey_ne (fun e2 => e (plit_inj hq hp e2))
        rw [this, look_drop_other e, h3 q hq]
        simp
    · rw [List.append_assoc]
      exact ((List.perm_append_left_iff acc).2 (by simpa using hperm rest hndr hm)).trans h4
end
theorem RG.walk {w : World} {b r : Nat} {K acc rest : List (PK × Int)} {cnt : Nat} (h : RG w b r K acc rest cnt) : ∃ o : Obj, w.heap[r]? = some o ∧ o.isWalk = true := by
  obtain ⟨since, seen, c0, h1⟩ := h.iter
  exact ⟨_, h1, rfl⟩
theorem RG.of_walks {w w' : World} {b r : Nat} {K acc rest : List (PK × Int)} {cnt : Nat} (h : RG w b r K acc rest cnt) (hk : KeepsWalks w w') : RG w' b r K acc rest cnt := by
  obtain ⟨since, seen, c0, h1⟩ := h.iter
  obtain ⟨es, cl, h2⟩ := h.pm.map
  exact h.kept ((hk.same _ _ h2 rfl).trans h2.symm) ((hk.same _ _ h1 rfl).trans h1.symm)
theorem RG.len {w : World} {b r : Nat} {K acc rest : List (PK × Int)} {cnt : Nat} (h : RG w b r K acc rest cnt) : acc.length + rest.length = K.length := by
  have := h.perm.length_eq
  simpa using this

abbrev FK1 : Nat := 71
set_option maxRecDepth 100000 in
set_option maxHeartbeats 2000000 in
/-- the iterator over a map's keys -/
theorem keys1_in (F : Fence) (n : Nat) (hf : F.fn FK1) (hro : F.round = none) (hn : 1 ≤ n) (l Bm b : Nat) (K : List (PK × Int)) (J Jx : List PK → World → Prop)
    (hY : ∀ pre x W, J pre W → pre.length < K.length → P64 x → YieldAt F (n - 1) Try.prog l #[vP x] W fun e W' =>
      (e = .returned (.bool true) ∧ J (pre ++ [x]) W' ∧ KeepsWalks W W') ∨ (e = .returned (.bool false) ∧ Jx (pre ++ [x]) W'))
    (W : World) (hJ : AbidesFrom W.heap.size J) (hm : W.cell? ⟨Bm, 0, none⟩ = some (.map (some b))) (hown : PM W b K) (h0 : J [] W) :
    CallsIn F n Try.prog FK1 #[.func (.yield l) #[] #[], .pointer (some ⟨Bm, 0, none⟩)] W fun e W' => (∃ v, e = .returned v) ∧
      ((∃ ss : List PK, ss.Perm (K.map (·.1)) ∧ J ss W') ∨ (∃ pre : List PK, Jx pre W')) := by
  refine callsIn_of_wp Try.func71 rfl hf ?_ hro
  simp only [Try.ntmps71, List.size_toArray, List.length_cons, List.length_nil, Nat.reduceAdd, Nat.reduceSub, Array.replicate_succ, Array.replicate_zero, List.push_toArray, List.append_toArray, List.nil_append, List.cons_append]
  gi_wp2_with (first
    | (gi_at_range; refine wpIn_range_t Try.underlying67 rfl _ rfl rfl hown ?_; intro w0 hrg0 hg0 hs0)
    | gi_in)
  go_frame
  gi_loopw [3] (fun _ wr => ∃ (rest : List (PK × Int)) (cnt : Nat) (acc : List (PK × Int)), RG wr b W.heap.size K acc rest cnt ∧ J (acc.map (·.1)) wr)
    (fun _ wr => wr.rangeLeft b W.heap.size)
  case atStart =>
    exact ⟨_, _, [], hrg0, hJ [] W w0 none h0 hg0 (fun r e => by cases e)⟩
  case round =>
    obtain ⟨rest, cnt, acc, hrg, hJs⟩ := hrel
    gi_wp2_with (first
      | (gi_at_next; refine wpIn_next rfl _ rfl rfl hrg ?_ ?_)
      | gi_in)
    · intro hl0
      gi_wp2
      go_end0
      subst hl0
      exact ⟨⟨_, rfl⟩, .inl ⟨_, by have := hrg.perm; rw [List.append_nil] at this; exact this.map _, hJs⟩⟩
    · intro x1 x2 c rest2 w2 cnt2 hx hc hin hrg2 hlt hg2 hs2 hen
      have hll := hrg.len
      have hlr : 0 < rest.length := List.length_pos_of_mem hin
      have hJ2 : J (acc.map (·.1)) w2 := hJ _ wr w2 (some W.heap.size) hJs hg2 (fun r e => by cases e; exact ⟨Nat.le_refl _, hrg.walk⟩)
      have xb := heap_alloc_new w2 (.cells #[.int .i64 x1, .int .i64 x2] 23)
      have x0 := cell_at xb 0
      have x3 := cell_at xb 1
      simp only [List.getElem?_toArray, List.getElem?_cons_zero, List.getElem?_cons_succ] at x0 x3
      have hrg3 := hrg2.of_walks (KeepsWalks.alloc w2 (.cells #[.int .i64 x1, .int .i64 x2] 23))
      have hJ3 : J (acc.map (·.1)) (w2.alloc (.cells #[.int .i64 x1, .int .i64 x2] 23)) := hJ _ w2 _ none hJ2 (World.grownBy_alloc _ _ _) (fun r e => by cases e)
      obtain ⟨fn, tmps, assign, body, hy, hR⟩ := hY (acc.map (·.1)) (x1, x2) (w2.alloc (.cells #[.int .i64 x1, .int .i64 x2] 23)) hJ3 (by simp; omega) hx
      have e1 : (acc.map (·.1)) ++ [(x1, x2)] = (acc ++ [((x1, x2), c)]).map (·.1) := by simp
      rw [e1] at hR
      clear hs2 e1 hll hlr
      unfold vP at hen hy
      gi_wp2
      refine hR.mono ?_
      rintro e W3 (⟨rfl, hJ4, hk4⟩ | ⟨rfl, hJx4⟩)
      · gi_wp2
        have hrg4 := hrg3.of_walks hk4
        go_roundw
        case rel => exact ⟨rest2, cnt2, _, hrg4, hJ4⟩
        case measure => rw [hrg4.cnt, hrg.cnt]; exact hlt
      · gi_wp2
        refine bodyPost_ret (results_none rfl _ _ _) rfl ?_
        exact ⟨⟨_, rfl⟩, .inr ⟨_, hJx4⟩⟩
/-- what Keys of a map hands back, at its box -/
theorem keys_stops (F : Fence) (n : Nat) (hf : F.fn FK1) (hro : F.round = none) (hn : 1 ≤ n) (Bm b : Nat) (K : List (PK × Int)) (w : World) (hm : w.cell? ⟨Bm, 0, none⟩ = some (.map (some b))) (hown : PM w b K) (hal : ∀ x ∈ K, P64 x.1) :
    SeqStopsK F n Try.prog FK1 #[.pointer (some ⟨Bm, 0, none⟩)] (fun x : {p : PK // P64 p} => #[vP x.1]) KeepsWalks (fun ss => (ss.map (·.1)).Perm (K.map (·.1))) (fun _ => True) K.length w := fun l J Jx W hW hJ _ hY h0 => by
  have key : ∀ (L : List PK), (∀ x ∈ L, P64 x) → ∃ L' : List {p : PK // P64 p}, L'.map (·.1) = L := by
    intro L
    induction L with
    | nil => intro _; exact ⟨[], rfl⟩
    | cons a t ih =>
      intro h
      obtain ⟨L', e⟩ := ih (fun x hx => h x (List.mem_cons_of_mem _ hx))
      exact ⟨⟨a, h a (by simp)⟩ :: L', by simp [e]⟩
  refine (keys1_in F n hf hro hn l Bm b K (fun L V => ∃ L' : List {p : PK // P64 p}, L'.map (·.1) = L ∧ J L' V) (fun L V => ∃ L' : List {p : PK // P64 p}, L'.map (·.1) = L ∧ Jx L' V) ?_ W ?_ ((hW.cell (p := ⟨Bm, 0, none⟩) (World.block_lt_of_cell? w _ hm)).trans hm) (hown.below hW) ⟨[], rfl, h0⟩).mono ?_
  · rintro pre x V ⟨L', rfl, hj⟩ hl hx
    obtain ⟨fn, tmps, assign, body, hy, hR⟩ := hY L' ⟨x, hx⟩ V hj (by simpa using hl)
    refine ⟨fn, tmps, assign, body, hy, hR.mono ?_⟩
    rintro e V2 (⟨h1, h2, h3⟩ | ⟨h1, h2⟩)
    · exact .inl ⟨h1, ⟨_, by simp, h2⟩, h3⟩
    · exact .inr ⟨h1, _, by simp, h2⟩
  · rintro s A B row ⟨L', e, hj⟩ hg hr
    exact ⟨L', e, hJ L' A B row hj hg hr⟩
  · rintro e V ⟨hv, ⟨ss, hp, L', rfl, hj⟩ | ⟨pre, L', e2, hj⟩⟩
    · exact ⟨hv, .inl ⟨L', hp, hj⟩⟩
    · exact ⟨hv, .inr ⟨L', trivial, hj⟩⟩
set_option maxRecDepth 100000 in
set_option maxHeartbeats 1000000 in
theorem keys_stops_nil (F : Fence) (n : Nat) (hf : F.fn FK1) (hro : F.round = none) (Bm : Nat) (w : World) (hm : w.cell? ⟨Bm, 0, none⟩ = some (.map none)) :
    SeqStopsK F n Try.prog FK1 #[.pointer (some ⟨Bm, 0, none⟩)] (fun x : {p : PK // P64 p} => #[vP x.1]) KeepsWalks (fun ss => ss = []) (fun _ => True) 0 w := fun l J Jx W hW hJ _ hY h0 => by
  have hm1 := (hW.cell (p := ⟨Bm, 0, none⟩) (World.block_lt_of_cell? w _ hm)).trans hm
  have hrg := run_range_nilMap (P := Try.prog) W 67 _ _ Try.underlying67
  have hnx : ∀ ty, (Instr.next (.pointer (some ⟨W.heap.size, 0, none⟩)) false ty).run Try.prog (W.alloc (.mapIter none 0 #[] 0)) = _ := fun ty => run_next_nilMap _ ty 0 0 #[]
  refine callsIn_of_wp Try.func71 rfl hf ?_ hro
  simp only [Try.ntmps71, List.size_toArray, List.length_cons, List.length_nil, Nat.reduceAdd, Nat.reduceSub, Array.replicate_succ, Array.replicate_zero, List.push_toArray, List.append_toArray, List.nil_append, List.cons_append]
  gi_wp2
  refine wpIn_loop_rounds 1 ?_
  rw [roundsIn_succ]
  gi_wp2
  go_end0
  exact ⟨⟨_, rfl⟩, .inl ⟨[], rfl, hJ [] W _ none h0 (World.grownBy_alloc W _ none) (fun r e => by cases e)⟩⟩
set_option maxHeartbeats 800000 in
theorem keys_any (mr : Option Nat) (w : World) :
    Calls Try.prog 49 #[.map mr] w fun e w' => e = .returned (.func (.func FK1) #[] #[.pointer (some ⟨w.heap.size, 0, none⟩)]) ∧ w' = w.alloc (.cells #[.map mr] 67) := by
  go_enter Try.func49, Try.ntmps49
  go_wp2_with fail
  go_ret
  exact ⟨rfl, rfl⟩
end Go.Proofs.Ytaecngdabgnamaa.PMap
