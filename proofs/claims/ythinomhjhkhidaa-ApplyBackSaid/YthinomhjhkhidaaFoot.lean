/- What a call may have written: blocks of a footprint, and new ones. -/
import Derived.Test.YthinomhjhkhidaaBase
import Derived.Maps.OwnSet
import Derived.Maps.AppendAt
import Derived.RangeFuncBox
namespace Go.Proofs.Ythinomhjhkhidaa.Foot
open Go.RowKit Base

/-- from w to w': only blocks of F are written; the footprint then, F', is of F or new -/
structure Upd (F F' : Nat → Prop) (w w' : World) : Prop where
  os : w'.os = w.os
  tape : w'.tape = w.tape
  output : w'.output = w.output
  size : w.heap.size ≤ w'.heap.size
  block : ∀ k, k < w.heap.size → ¬ F k → w'.heap[k]? = w.heap[k]?
  new : ∀ k, F' k → F k ∨ w.heap.size ≤ k

theorem Upd.below {F F' : Nat → Prop} {w w' : World} (h : Upd F F' w w') {B : Nat} (hB : B ≤ w.heap.size) (hF : ∀ k, F k → B ≤ k) : Below B w w' :=
  ⟨h.os, h.tape, h.output, h.size, fun k hk => h.block k (by omega) (fun hf => by have := hF k hf; omega)⟩
theorem Upd.of_below {F : Nat → Prop} {w w' : World} (h : Below w.heap.size w w') : Upd F F w w' :=
  ⟨h.os, h.tape, h.output, h.size, fun k hk _ => h.block k hk, fun _ hk => .inl hk⟩
theorem Upd.trans {F F' F'' : Nat → Prop} {w w' w'' : World} (h : Upd F F' w w') (g : Upd F' F'' w' w'') : Upd F F'' w w'' :=
  ⟨g.os.trans h.os, g.tape.trans h.tape, g.output.trans h.output, Nat.le_trans h.size g.size,
    fun k hk hf => (g.block k (Nat.lt_of_lt_of_le hk h.size) (fun hf' => by rcases h.new k hf' with h1 | h1; exact hf h1; omega)).trans (h.block k hk hf),
    fun k hk => by
      rcases g.new k hk with h1 | h1
      · exact h.new k h1
      · right; have := h.size; omega⟩
/-- what lies outside a footprint reads as it did -/
theorem Upd.far {F F' G : Nat → Prop} {w w' : World} (h : Upd F F' w w') (hG : ∀ k, G k → k < w.heap.size) (hd : ∀ k, G k → ¬ F k) : ∀ k, G k → w'.heap[k]? = w.heap[k]? :=
  fun k hk => h.block k (hG k hk) (hd k hk)
theorem Upd.apart {F F' G : Nat → Prop} {w w' : World} (h : Upd F F' w w') (hG : ∀ k, G k → k < w.heap.size) (hd : ∀ k, G k → ¬ F k) : ∀ k, G k → ¬ F' k := by
  intro k hg hf
  rcases h.new k hf with h1 | h1
  · exact hd k hg h1
  · have := hG k hg; omega

theorem own_keep {w w1 : World} {base : Nat} {e : TypeId} {size n : Nat} {v : Value} {xs : List Value} (h : w.ownsRow base e size v n xs) (hm : ∀ k, v.ownBlock = some k → w1.heap[k]? = w.heap[k]?) : w1.ownsRow base e size v n xs := by
  obtain ⟨h1, h2⟩ := h
  refine ⟨h1, ?_⟩
  rcases h2 with h2 | ⟨g, cap, cur, rfl, hg, hh, r⟩
  · exact .inl h2
  · exact .inr ⟨g, cap, cur, rfl, hg, (hm g (by simp [Value.ownBlock])).trans hh, r⟩
theorem map_keep {H : Type} {P : Program} {k : TypeId} {R : Value → Option (DataW H × List MemPlace)} {b n : Nat} {D : DataW H} {w w1 : World} (h : w.ownsMap P k R b n D) (hm : w1.heap[b]? = w.heap[b]?) : w1.ownsMap P k R b n D := by
  obtain ⟨es, clock, h1, h2⟩ := h
  exact ⟨es, clock, hm.trans h1, h2⟩
/-- an element of an owned row, at an address that stays a variable in a walk -/
theorem own_at {α : Type} {f : α → List Value} {sz : Nat} (hf : ∀ x, (f x).length = sz) {w : World} {B : Nat} {e : TypeId} {v : Value} {n : Nat} {l : List α} (h : w.ownsRow B e sz v n (l.flatMap f)) (hsz : 0 < sz) {i : Nat} {x : α} (hi : l[i]? = some x) :
    ∃ (ad : Addr) (cap : Nat), v = .slice (some ad) n cap ∧ n ≤ cap ∧ (∀ u, (f x)[0]? = some u → w.cell? (ad.add (i * sz)) = some u) ∧ ∀ j u, (f x)[j]? = some u → w.cell? ⟨(ad.add (i * sz)).block, (ad.add (i * sz)).off + j, none⟩ = some u := by
  rcases h.2 with ⟨rfl, h0⟩ | ⟨g, cap, cur, rfl, hb, hg, hc, hm, hs, ht⟩
  · have hl := h.1
    rw [flat_len f sz hf, h0, Nat.zero_mul] at hl
    have hil : i < l.length := (List.getElem?_eq_some_iff.1 hi).1
    exfalso
    rcases Nat.mul_eq_zero.1 hl with h1 | h1
    · omega
    · omega
  · have key : ∀ j u, (f x)[j]? = some u → w.cell? ⟨g, i * sz + j, none⟩ = some u := by
      intro j u hu
      have hj : j < sz := by have := (List.getElem?_eq_some_iff.1 hu).1; rw [hf] at this; exact this
      have hgt := flat_get f sz hf l i j hj
      rw [hi, Option.bind_some, hu, ← ht] at hgt
      have hlt : i * sz + j < n * sz := by
        have := (List.getElem?_eq_some_iff.1 hgt).1
        rw [List.length_take] at this
        omega
      rw [List.getElem?_take_of_lt hlt] at hgt
      rw [cell_at hg, ← Array.getElem?_toList]; exact hgt
    refine ⟨⟨g, 0, none⟩, cap, rfl, hc, fun u hu => ?_, fun j u hu => ?_⟩
    · rw [addr_add, Nat.zero_add]; exact key 0 u hu
    · rw [addr_add, Nat.zero_add]; exact key j u hu
/-- the same, the row's block by its number -/
theorem own_get {α : Type} {f : α → List Value} {sz : Nat} (hf : ∀ x, (f x).length = sz) {w : World} {B : Nat} {e : TypeId} {v : Value} {n : Nat} {l : List α} (h : w.ownsRow B e sz v n (l.flatMap f)) (hsz : 0 < sz) {i : Nat} {x : α} (hi : l[i]? = some x) :
    ∃ (g cap : Nat), v = .slice (some ⟨g, 0, none⟩) n cap ∧ n ≤ cap ∧ ∀ j u, (f x)[j]? = some u → w.cell? ⟨g, i * sz + j, none⟩ = some u := by
  have hn : n ≠ 0 := by
    intro h0
    have hl := h.1
    rw [flat_len f sz hf, h0, Nat.zero_mul] at hl
    have hil : i < l.length := (List.getElem?_eq_some_iff.1 hi).1
    rcases Nat.mul_eq_zero.1 hl with h1 | h1
    · omega
    · omega
  obtain ⟨ad, cap, rfl, hc, _, hj⟩ := own_at hf h hsz hi
  rcases h.2 with ⟨e, _⟩ | ⟨g, cap', cur, e, _⟩
  · cases e
  · cases e
    exact ⟨g, cap, rfl, hc, fun j u hu => by have := hj j u hu; rwa [addr_add, Nat.zero_add] at this⟩
/-- the cells of a new block -/
theorem cells_new (w : World) (xs : List Value) (t : TypeId) : ∀ j u, xs[j]? = some u → (w.alloc (.cells xs.toArray t)).cell? ((⟨w.heap.size, 0, none⟩ : Addr).add j) = some u := by
  intro j u hj
  rw [addr_add, Nat.zero_add, cell_at (heap_alloc_new w _)]
  simpa using hj
theorem Upd.grown {w w' : World} {row : Option Nat} (h : w.grownBy w' row) {F : Nat → Prop} (hr : ∀ k, row = some k → F k) : Upd F F w w' :=
  ⟨h.os, h.tape, h.output, h.size, fun k hk hf => h.block k hk (fun e => hf (hr k e.symm)), fun _ hk => .inl hk⟩
theorem Upd.set {w : World} {p : Addr} {u : Value} {F : Nat → Prop} (hp : F p.block) : Upd F F w (w.setCell p u) :=
  ⟨rfl, rfl, rfl, by simp [World.setCell], fun k hk hf => Below.heap_setCell _ _ _ _ (fun e => hf (by rw [e]; exact hp)), fun _ hk => .inl hk⟩
theorem Upd.alloc {w : World} {o : Obj} {F : Nat → Prop} : Upd F F w (w.alloc o) :=
  ⟨rfl, rfl, rfl, by simp, fun k hk _ => Below.heap_alloc _ _ _ hk, fun _ hk => .inl hk⟩
theorem Upd.refl {w : World} {F : Nat → Prop} : Upd F F w w := ⟨rfl, rfl, rfl, Nat.le_refl _, fun _ _ _ => rfl, fun _ hk => .inl hk⟩
theorem Upd.foot {w w' : World} {F F' G : Nat → Prop} (h : Upd F F' w w') (hG : ∀ k, G k → F' k ∨ w.heap.size ≤ k) : Upd F G w w' :=
  ⟨h.os, h.tape, h.output, h.size, h.block, fun k hk => by rcases hG k hk with h1 | h1; exact h.new k h1; exact .inr h1⟩
/-- a local variable's block, behind a call that left what was there -/
theorem local_at {w w' : World} {cs : Array Value} {t : TypeId} (b : Below (w.alloc (.cells cs t)).heap.size (w.alloc (.cells cs t)) w') (i : Nat) (u : Value) (h : cs[i]? = some u) : w'.cell? ⟨w.heap.size, i, none⟩ = some u := by
  rw [b.cell (p := ⟨w.heap.size, i, none⟩) (by simp), cell_at (heap_alloc_new w _)]
  exact h
theorem news_alloc {w : World} {n : Nat} {cs : Array Value} {t : TypeId} (h : w.heap.size = n) : ∀ j u, cs.toList[j]? = some u → (w.alloc (.cells cs t)).cell? ((⟨n, 0, none⟩ : Addr).add j) = some u := by
  subst h
  intro j u hu
  rw [addr_add, Nat.zero_add, cell_at (heap_alloc_new w _)]
  simpa using hu
theorem grown_blk {w w1 : World} {row : Option Nat} (hg : w.grownBy w1 row) {b : Nat} {o : Obj} (h : w.heap[b]? = some o) (hne : some b ≠ row) : w1.heap[b]? = some o := (hg.block b (block_lt h) hne).trans h
theorem alloc_blk {w : World} {b : Nat} {o : Obj} (h : w.heap[b]? = some o) {x : Obj} : (w.alloc x).heap[b]? = some o := (Below.heap_alloc w x b (block_lt h)).trans h
theorem set_blk {w : World} {b : Nat} {o : Obj} (h : w.heap[b]? = some o) {p : Addr} {v : Value} (hne : b ≠ p.block) : (w.setCell p v).heap[b]? = some o := (Below.heap_setCell w p v b hne).trans h
theorem set_blk_eq {w : World} {b : Nat} {p : Addr} {v : Value} (hne : b ≠ p.block) : (w.setCell p v).heap[b]? = w.heap[b]? := Below.heap_setCell w p v b hne
/-- rows of unlike elements never share a block -/
theorem own_not_own {w : World} {B B' : Nat} {e e' : TypeId} {sz sz' n n' b : Nat} {v v' : Value} {xs xs' : List Value} (h : w.ownsRow B e sz v n xs) (h' : w.ownsRow B' e' sz' v' n' xs') (hne : e ≠ e') (hb : v.ownBlock = some b) (hb' : v'.ownBlock = some b) : False := by
  rcases h.2 with ⟨rfl, _⟩ | ⟨g, cap, cur, rfl, _, hg, _⟩
  · cases hb
  · cases hb
    rcases h'.2 with ⟨rfl, _⟩ | ⟨g', cap', cur', rfl, _, hg', _⟩
    · cases hb'
    · cases hb'
      rw [hg] at hg'
      injection hg' with hg'
      injection hg' with _ hg'
      exact hne hg'
theorem grown_below {w w1 : World} {row : Option Nat} (h : Below w.heap.size w w1) : w.grownBy w1 row := ⟨h.os, h.tape, h.output, h.size, fun k hk _ => h.block k hk⟩
theorem row_not_map {w : World} {B : Nat} {e : TypeId} {sz n m b : Nat} {v : Value} {xs : List Value} {H : Type} {P : Program} {kt : TypeId} {R : Value → Option (DataW H × List MemPlace)} {D : DataW H} (h : w.ownsRow B e sz v n xs) (hm : w.ownsMap P kt R b m D) {k : Nat} (hk : v.ownBlock = some k) (e : some k = some b) : False := by
  cases e
  obtain ⟨es, cl, hm1, _⟩ := hm
  rcases h.2 with ⟨rfl, _⟩ | ⟨g, cap, cur, rfl, _, hg, _⟩
  · cases hk
  · cases hk; rw [hg] at hm1; cases hm1

theorem row_not_cells {w : World} {B : Nat} {e e' : TypeId} {sz n b : Nat} {v : Value} {xs : List Value} {arr : Array Value} {fz : Nat × Nat} (h : w.ownsRow B e sz v n xs) (hb : w.heap[b]? = some (.cells arr e' fz)) (hne : e ≠ e') (e : v.ownBlock = some b) : False := by
  rcases h.2 with ⟨rfl, _⟩ | ⟨g, cap, cur, rfl, _, hg, _⟩
  · cases e
  · cases e; rw [hg] at hb; injection hb with hb; injection hb with _ hb; exact hne hb

theorem grown_drew {w w1 : World} {row : Option Nat} (h : w.grownBy w1 row) : w.grownBy w1.drew row := ⟨h.os, h.tape, h.output, h.size, h.block⟩
theorem Upd.drew {F F' : Nat → Prop} {w w' : World} (h : Upd F F' w w') : Upd F F' w w'.drew := ⟨h.os, h.tape, h.output, h.size, h.block, h.new⟩
theorem Upd.drewN {F F' : Nat → Prop} {w w' : World} (h : Upd F F' w w') (n : Nat) : Upd F F' w (w'.drewN n) := ⟨h.os, h.tape, h.output, h.size, h.block, h.new⟩
theorem set_two {w : World} {b : Nat} {a c x y : Value} {e : TypeId} {fz : Nat × Nat} (h : w.heap[b]? = some (.cells #[a, c] e fz)) : ((w.setCell ⟨b, 0, none⟩ x).setCell ⟨b, 1, none⟩ y).heap[b]? = some (.cells #[x, y] e fz) := by
  rw [set_at (set_at h 0 x) 1 y]; rfl
theorem set_three {w : World} {b : Nat} {a c d x y z : Value} {e : TypeId} {fz : Nat × Nat} (h : w.heap[b]? = some (.cells #[a, c, d] e fz)) : (((w.setCell ⟨b, 0, none⟩ x).setCell ⟨b, 1, none⟩ y).setCell ⟨b, 2, none⟩ z).heap[b]? = some (.cells #[x, y, z] e fz) := by
  rw [set_at (set_at (set_at h 0 x) 1 y) 2 z]; rfl
/-- a local variable's block, behind a call that left what was there -/
theorem local_blk {w w' : World} {cs : Array Value} {t : TypeId} (b : Below (w.alloc (.cells cs t)).heap.size (w.alloc (.cells cs t)) w') : w'.heap[w.heap.size]? = some (.cells cs t (0, 0)) := by
  rw [b.block _ (by simp)]
  exact heap_alloc_new w _
theorem Upd.foot0 {w w' : World} {F F' G : Nat → Prop} (h : Upd F F' w w') (hG : ∀ k, F k → G k) : Upd G (fun k => F' k ∨ G k) w w' :=
  ⟨h.os, h.tape, h.output, h.size, fun k hk hg => h.block k hk (fun hf => hg (hG k hf)), fun k hk => by rcases hk with h1 | h1; rcases h.new k h1 with h2 | h2; exact .inl (hG k h2); exact .inr h2; exact .inl h1⟩
theorem Upd.set_new {w w' : World} {F F' : Nat → Prop} (h : Upd F F' w w') {p : Addr} {v : Value} (hp : w.heap.size ≤ p.block) : Upd F F' w (w'.setCell p v) :=
  ⟨h.os, h.tape, h.output, by simpa [World.setCell] using h.size, fun k hk hf => (set_blk_eq (by omega)).trans (h.block k hk hf), h.new⟩
theorem own_cells {w : World} {B : Nat} {e : TypeId} {sz n k : Nat} {v : Value} {xs : List Value} {o : Obj} (h : w.ownsRow B e sz v n xs) (hk : v.ownBlock = some k) (ho : w.heap[k]? = some o) : o.isCells = true := by
  rcases h.2 with ⟨rfl, _⟩ | ⟨g, cap, cur, rfl, _, hg, _⟩
  · cases hk
  · cases hk; rw [hg] at ho; cases ho; rfl
end Go.Proofs.Ythinomhjhkhidaa.Foot
