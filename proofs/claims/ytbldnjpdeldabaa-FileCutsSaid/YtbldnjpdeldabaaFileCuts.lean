/- FileCuts: the beginning of right merges is right; a merge that is done twice isn't. No condition. -/
import Derived.Test.YtbldnjpdeldabaaFileWrites
import Derived.Test.YtbldnjpdeldabaaFileCutPure
namespace Go.Proofs.Ytbldnjpdeldabaa.FileCuts
open Go.RowKit Go.ChangeShapes Go.WideShapes Go.Deep Go.Proofs.YtbldnjpdeldabaaW.PrintWords Go.Proofs.YtbldnjpdeldabaaW.PrintLast Go.Proofs.YtbldnjpdeldabaaW.PrintMore Base Foot Src Kinds SymPure FilePure FileJoin FileWrite RefFile FileLaw FileWrites
set_option linter.unusedVariables false
set_option linter.unusedSimpArgs false
attribute [local go_sem ↓] Go.wp_at_zero Go.wp_at_succ

theorem own_empty1 (w : World) (base : Nat) (e : TypeId) (size : Nat) (o : Obj) (hb : base ≤ w.heap.size) : ((w.alloc o).alloc (.cells #[] e)).ownsRow base e size (.slice (some ⟨w.heap.size + 1, 0, none⟩) 0 0) 0 [] := by
  have := own_empty (w.alloc o) base e size (by simp; omega)
  simpa using this
theorem news_blk {w : World} {b : Nat} {cs : Array Value} {t : TypeId} {fz : Nat × Nat} (h : w.heap[b]? = some (.cells cs t fz)) : ∀ j u, cs.toList[j]? = some u → w.cell? ((⟨b, 0, none⟩ : Addr).add j) = some u := by
  intro j u hu
  rw [addr_add, Nat.zero_add, cell_at h]
  simpa using hu
theorem news_two {w w5 : World} {o : Obj} {cs : Array Value} {t : TypeId} (hg : ((w.alloc o).alloc (.cells cs t)).drew.grownBy w5 (some w.heap.size)) : ∀ j u, cs.toList[j]? = some u → w5.cell? ((⟨w.heap.size + 1, 0, none⟩ : Addr).add j) = some u := by
  have h : ((w.alloc o).alloc (.cells cs t)).heap[w.heap.size + 1]? = some (.cells cs t (0, 0)) := by
    have := heap_alloc_new (w.alloc o) (.cells cs t)
    simpa using this
  exact news_blk (grown_blk hg (w := ((w.alloc o).alloc (.cells cs t)).drew) h (by simp))
theorem news_one {w w5 : World} {o : Obj} {cs : Array Value} {t : TypeId} (hg : ((w.alloc (.cells cs t)).alloc o).drew.grownBy w5 (some (w.heap.size + 1))) : ∀ j u, cs.toList[j]? = some u → w5.cell? ((⟨w.heap.size, 0, none⟩ : Addr).add j) = some u := by
  have h : ((w.alloc (.cells cs t)).alloc o).heap[w.heap.size]? = some (.cells cs t (0, 0)) := alloc_blk (heap_alloc_new w _)
  exact news_blk (grown_blk hg (w := ((w.alloc (.cells cs t)).alloc o).drew) h (by simp))
theorem check_again {base g c : Nat} {w6 : World} {l : List Mg} {x : Mg} (h : w6.ownsRow base 98 2 (.slice (some ⟨g, 0, none⟩) (l.length + 1) c) (l.length + 1) (l.flatMap encSS ++ [.string x.1, .string x.2]))
    (hg : ∀ m ∈ l, m.1.size ≤ maxLen ∧ m.2.size ≤ maxLen) (hx : x ∈ l) (hl : l.length ≤ 60) (hc : chk [] (l ++ [x]) = ((l.length : Int), 8)) :
    Calls Try.prog 54 #[.slice (some ⟨g, 0, none⟩) (l.length + 1) c] w6 fun e w' => e = .returned (.tuple #[.int .i64 (l.length : Int), .int .i64 8]) ∧ Below w6.heap.size w6 w' := by
  have hlen : (l ++ [x]).length = l.length + 1 := by simp
  have hs := Src.of_own h
  have hf : l.flatMap encSS ++ [.string x.1, .string x.2] = (l ++ [x]).flatMap encSS := by simp [encSS]
  rw [hf, ← hlen] at hs
  have hC := C_of_src hs (by rw [hlen]; unfold maxLen; omega)
  have := check_any (some ⟨g, 0, none⟩) c (l ++ [x]) w6 hC (fun m hm => by
    rcases List.mem_append.1 hm with h1 | h1
    · exact hg m h1
    · rw [List.mem_singleton.1 h1]; exact hg x hx) (by rw [hlen]; omega)
  rw [hlen, hc] at this
  exact this

set_option maxHeartbeats 1600000 in
set_option maxRecDepth 100000 in
theorem law_any (A : Option Addr) (cp : Nat) (l : List Mg) (at_ : Nat) (w : World) (hr : Kd.C kSS w A l.length l) (hc : l.length ≤ cp) (hl : l.length ≤ maxLen) (ha : at_ < 256) :
    Calls Try.prog 13 #[.slice A l.length cp, .int .u8 (at_ : Int)] w fun e w' => e = .returned (.bool true) ∧ Below w.heap.size w w' := by
  obtain ⟨i0, hi, hz0, hz1, hz2⟩ := info_parts SymMerges.infoM
  go_enter Try.func13, Try.ntmps13
  go_wp2_with fail
  refine (awake_any _).mono ?_
  rintro e w1 ⟨rfl, b1⟩
  have hr1 := Kd.C_below hr b1
  go_wp2_with fail
  refine (great_any A cp l 60 w1 hr1 hl (by decide)).mono ?_
  rintro e w2 ⟨rfl, rfl⟩
  by_cases hgr : greatB l 60 = true
  · rw [hgr]
    go_wp2_with fail
    go_ret
    exact ⟨rfl, b1⟩
  · have hgf : greatB l 60 = false := by cases hx : greatB l 60; rfl; exact absurd hx hgr
    rw [hgf]
    obtain ⟨h60, h300⟩ := great_no hgf
    clear hgr hgf hl
    have hg3 : ∀ m ∈ l, m.1.size ≤ maxLen ∧ m.2.size ≤ maxLen := fun m hm => by have := h300 m hm; unfold maxLen; omega
    by_cases h0 : l.length = 0
    · go_wp2_with fail
      go_ret
      exact ⟨rfl, b1⟩
    · have hp : 0 < l.length := by omega
      go_wp2_with fail
      refine (check_any A cp l _ hr1 hg3 (by omega)).mono ?_
      rintro e w3 ⟨rfl, b3⟩
      have hr3 := Kd.C_below hr1 b3
      have bb3 := b1.trans (b3.mono b1.size)
      have htk := fun k h => chk_take l [] k h
      have htw := fun k m h hm => chk_twice (l := l) (k := k) (m := m) h hm
      generalize hE : (chk [] l).2 = er at *
      generalize (chk [] l).1 = pl at *
      by_cases he : er = 0
      · subst he
        obtain ⟨k, hk⟩ : ∃ k, at_ % l.length = k := ⟨_, rfl⟩
        have hkl : k < l.length := by rw [← hk]; exact Nat.mod_lt _ hp
        have hx := List.getElem?_eq_getElem hkl
        have hcA := htk k rfl
        have hcB := htw k _ rfl hx
        have hwa : IntKind.i64.wrap (at_ : Int) = (at_ : Int) := IntWalk.i64_in _ (by omega)
        have hrm : Int.tmod (at_ : Int) (l.length : Int) = (k : Int) := by rw [← hk]; rfl
        have hwk : IntKind.i64.wrap (k : Int) = (k : Int) := IntWalk.i64_in _ (by omega)
        have htl : (l.take k).length = k := by rw [List.length_take]; omega
        have hcut := cut_to (P := Try.prog) 48 98 .i64 Try.underlying48 hi A l.length cp (k : Int) (by omega) (by omega) hc
        rw [Int.toNat_natCast] at hcut
        have hrk := Kd.C_take (m := k) hr3 (by omega)
        have HCA := Lib.hid hcA
        have HCB := Lib.hid hcB
        clear htk htw hE hcA hcB
        have hck := check_any A cp (l.take k) w3 hrk (fun m hm => hg3 m (List.mem_of_mem_take hm)) (by omega)
        rw [htl, HCA.out] at hck
        have HCK := Lib.hid hck
        clear hck
        go_wp2_with fail
        refine HCK.out.mono ?_
        rintro e w4 ⟨rfl, b4⟩
        have hr4 := Kd.C_below hr3 b4
        have bb4 := bb3.trans (b4.mono bb3.size)
        have hsrc := src_of_C hr4
        obtain ⟨ad, e1, hx0, hx1⟩ := at_SS hr4 hx
        cases e1
        have HSD := Lib.hid (hsrc.keep (w' := w4.drew) (fun _ _ h => h))
        have hone : ∀ u ∈ l.flatMap encSS, u.oneCell' = true := by
          intro u hu
          obtain ⟨x, _, hx⟩ := List.mem_flatMap.1 hu
          unfold encSS at hx
          rcases List.mem_cons.1 hx with rfl | hx
          · rfl
          · rcases List.mem_cons.1 hx with rfl | hx
            · rfl
            · cases hx
        have lx0 := World.block_lt_of_cell? w4 _ hx0
        have HONE := Lib.hid hone
        have hmem : l[k]'hkl ∈ l := List.getElem_mem hkl
        have HG3 := Lib.hid hg3
        clear hone hg3
        go_wp2_with fail
        have HS4 := Lib.hid hsrc
        have HX0 := Lib.hid hx0
        have HX1 := Lib.hid hx1
        go_region_law (first
          | (refine step_append_lies _ (by rfl) _ _ _ (by rfl) w4.heap.size 98 i0 _ 2 32 Try.underlying48 hi hz0 hz1 hz2 rfl (by omega) _ l.length _ (by rfl) (by exact hown5.alloc _) ⟨w5.heap.size, 0, none⟩ 1 1 [.string (l[k]'hkl).1, .string (l[k]'hkl).2] (by rfl) (by rfl) (by exact news_alloc rfl) (by simp [Value.oneCell']) (by omega) (by unfold maxLen; omega) (by omega) (by have := b5.size; simp; omega) (w5.heap.size + 1) (by simp) ?_; intro g6 c6 w6 hown6 hgrow6 hat6 hlt6; have b6 : Below w4.heap.size w4 w6 := (b5.alloc b5.size _).grown hgrow6 (by have := b5.size; simp; omega) (fun q hq => (hown5.lt q hq).1))
          | (refine step_append_lies _ (by rfl) _ _ _ (by rfl) w4.heap.size 98 i0 _ 2 32 Try.underlying48 hi hz0 hz1 hz2 rfl (by omega) _ l.length _ (by rfl) (by exact hown5) ⟨w4.heap.size + 1, 0, none⟩ 1 1 [.string (l[k]'hkl).1, .string (l[k]'hkl).2] (by rfl) (by rfl) (by exact N5.out) (by simp [Value.oneCell']) (by omega) (by unfold maxLen; omega) (by omega) (by exact b5.size) (w5.heap.size) (by rfl) ?_; intro g6 c6 w6 hown6 hgrow6 hat6 hlt6; have b6 : Below w4.heap.size w4 w6 := b5.grown hgrow6 b5.size (fun q hq => (hown5.lt q hq).1))
          | (refine step_append_lies _ (by rfl) _ _ _ (by rfl) w4.heap.size 98 i0 _ 2 32 Try.underlying48 hi hz0 hz1 hz2 rfl (by omega) _ l.length _ (by rfl) (by exact hown5) ⟨w4.heap.size, 0, none⟩ 1 1 [.string (l[k]'hkl).1, .string (l[k]'hkl).2] (by rfl) (by rfl) (by exact N5.out) (by simp [Value.oneCell']) (by omega) (by unfold maxLen; omega) (by omega) (by exact b5.size) (w5.heap.size) (by rfl) ?_; intro g6 c6 w6 hown6 hgrow6 hat6 hlt6; have b6 : Below w4.heap.size w4 w6 := b5.grown hgrow6 b5.size (fun q hq => (hown5.lt q hq).1))
          | (go_simp; go_at_call 54; refine (check_again hown6 HG3.out hmem h60 HCB.out).mono ?_; rintro e w7 ⟨rfl, b7⟩)
          | (refine step_append_src _ (by rfl) _ _ _ (by rfl) w4.heap.size 98 i0 _ 2 32 Try.underlying48 hi hz0 hz1 hz2 rfl (by omega) _ 0 [] (by rfl) (by exact (own_empty w4.drew w4.heap.size 98 2 (Nat.le_refl _))) _ _ _ _ (by rfl) (by exact HSD.out.alloc _) HONE.out (by unfold maxLen; omega) (by omega) (by simp) ?_; intro v' w5 hown5 hgrow5 hat5; simp only [Nat.zero_add, List.nil_append] at hown5; obtain ⟨A5, c5, rfl⟩ := Bld.own_slice hown5; have b5 : Below w4.heap.size w4 w5 := ((Below.refl w4.heap.size w4).drew.alloc (Nat.le_refl _) _).grown hgrow5 (by simp) (fun k hk => by cases hk; exact Nat.le_refl _); have y0 := (b5.cell lx0).trans HX0.out; have y1 := (b5.cell (p := ⟨(ad.add (k * 2)).block, (ad.add (k * 2)).off + 1, none⟩) lx0).trans HX1.out)
          | (refine step_append_src _ (by rfl) _ _ _ (by rfl) w4.heap.size 98 i0 _ 2 32 Try.underlying48 hi hz0 hz1 hz2 rfl (by omega) _ 0 [] (by rfl) (by exact ((own_empty w4 w4.heap.size 98 2 (Nat.le_refl _)).alloc _).drew) _ _ _ _ (by rfl) (by exact ((HS4.out.alloc _).alloc _).keep (fun _ _ h => h)) HONE.out (by unfold maxLen; omega) (by omega) (by simp; omega) ?_; intro v' w5 hown5 hgrow5 hat5; simp only [Nat.zero_add, List.nil_append] at hown5; obtain ⟨A5, c5, rfl⟩ := Bld.own_slice hown5; have b5 : Below w4.heap.size w4 w5 := (((Below.refl w4.heap.size w4).alloc (Nat.le_refl _) _).alloc (by simp) _).drew.grown hgrow5 (by simp; omega) (fun k hk => by cases hk; exact Nat.le_refl _); have N5 := Lib.hid (news_two hgrow5))
          | (refine step_append_src _ (by rfl) _ _ _ (by rfl) w4.heap.size 98 i0 _ 2 32 Try.underlying48 hi hz0 hz1 hz2 rfl (by omega) _ 0 [] (by rfl) (by exact (own_empty1 w4 w4.heap.size 98 2 _ (Nat.le_refl _)).drew) _ _ _ _ (by rfl) (by exact ((HS4.out.alloc _).alloc _).keep (fun _ _ h => h)) HONE.out (by unfold maxLen; omega) (by omega) (by simp; omega) ?_; intro v' w5 hown5 hgrow5 hat5; simp only [Nat.zero_add, List.nil_append] at hown5; obtain ⟨A5, c5, rfl⟩ := Bld.own_slice hown5; have b5 : Below w4.heap.size w4 w5 := (((Below.refl w4.heap.size w4).alloc (Nat.le_refl _) _).alloc (by simp) _).drew.grown hgrow5 (by simp; omega) (fun k hk => by cases hk; exact Nat.le_succ _); have N5 := Lib.hid (news_one hgrow5)))
        all_goals
          have bb7 := bb4.trans ((b6.trans (b7.mono b6.size)).mono bb4.size)
          go_wp2
          go_ret
          exact ⟨rfl, bb7⟩
      · clear hE
        go_wp2_with fail
        go_ret
        exact ⟨rfl, bb3⟩
theorem walk (W : World) (A : Option Addr) (cp : Nat) (l : List Mg) (hr : Kd.C kSS W A l.length l) (hc : l.length ≤ cp) (hg : ∀ x ∈ l, True) (hs : l.length * 32 ≤ reachBytes) (n : Int) (hf : (Lit.int .u8 n).wf = true) :
    Calls Try.prog 13 #[.slice A l.length cp, .int .u8 n] W fun e w' => e = .returned (.bool true) ∧ Below W.heap.size W w' := by
  have h : 0 ≤ n ∧ n ≤ 255 := by simpa [Lit.wf, IntKind.min, IntKind.max, IntKind.signed, IntKind.bits] using hf
  obtain ⟨m, rfl⟩ := Int.eq_ofNat_of_zero_le h.1
  exact law_any A cp l m W hr hc (by unfold reachBytes at hs; unfold maxLen; omega) (by omega)
end Go.Proofs.Ytbldnjpdeldabaa.FileCuts
