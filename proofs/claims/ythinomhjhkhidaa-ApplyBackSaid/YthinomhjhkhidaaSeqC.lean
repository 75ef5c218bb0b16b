/- Layer 11: which change is ahead, walked: a comparison that lays blocks of its own. -/
import Derived.Test.YthinomhjhkhidaaCmp3
import Derived.Test.YthinomhjhkhidaaSeqPure
import Derived.Shelf.SlSortCmp.WholeK
import Derived.Deep.DrawnRows
namespace Go.Proofs.Ythinomhjhkhidaa.SeqM
open Go.RowKit Go.Maps Go.Sort Base Foot ExtTail PMap SeqPure CmpW
set_option linter.unusedVariables false
set_option linter.unusedSimpArgs false
attribute [local go_sem ↓] Go.wp_at_zero Go.wp_at_succ

def encG (x : PK × Int) : List Value := [.int .i64 x.1.1, .int .i64 x.1.2, .int .i64 x.2]
theorem encG_len (x : PK × Int) : (encG x).length = 3 := rfl
def cfG (x y : PK × Int) : Int := orI (cmpI x.1.1 y.1.1) (cmpI x.1.2 y.1.2)
theorem cfG_lt (x y : PK × Int) : Go.Proofs.ltOf cfG x y = decide (befP x.1 y.1) := by
  unfold Go.Proofs.ltOf cfG orI cmpI befP
  by_cases h1 : x.1.1 < y.1.1
  · simp [h1]
  · by_cases h2 : y.1.1 < x.1.1
    · have : ¬ x.1.1 = y.1.1 := by omega
      simp [h1, h2, this]
    · have h3 : x.1.1 = y.1.1 := by omega
      by_cases h4 : x.1.2 < y.1.2
      · simp [h1, h2, h3, h4]
      · by_cases h5 : y.1.2 < x.1.2 <;> simp [h1, h2, h3, h4, h5]
theorem swoG : SWO (Go.Proofs.ltOf cfG) where
  irrefl x := by rw [cfG_lt]; simpa using befP.irrefl x.1
  trans x y z h1 h2 := by rw [cfG_lt] at *; simp at *; exact h1.trans h2
  ntrans x y z h1 h2 := by
    rw [cfG_lt] at *
    simp at *
    unfold befP at *
    omega
set_option maxHeartbeats 1600000 in
set_option maxRecDepth 100000 in
theorem cmp_any (x y : PK × Int) (W : World) : Calls Try.prog 91 #[.agg (encG x).toArray, .agg (encG y).toArray] W fun e w' => e = .returned (.int .i64 (cfG x y)) ∧ ∃ q os', w' = grow (W.drewN q) os' := by
  obtain ⟨⟨x1, x2⟩, x3⟩ := x
  obtain ⟨⟨y1, y2⟩, y3⟩ := y
  show Calls _ _ #[.agg #[.int .i64 x1, .int .i64 x2, .int .i64 x3], .agg #[.int .i64 y1, .int .i64 y2, .int .i64 y3]] _ _
  unfold cfG
  simp only
  have k1 := alloc_blk (x := .cells #[.int .i64 y1, .int .i64 y2, .int .i64 y3] 131) (heap_alloc_new W (.cells #[.int .i64 x1, .int .i64 x2, .int .i64 x3] 131))
  have k2 := heap_alloc_new (W.alloc (.cells #[.int .i64 x1, .int .i64 x2, .int .i64 x3] 131)) (.cells #[.int .i64 y1, .int .i64 y2, .int .i64 y3] 131)
  simp only [World.size_alloc] at k2
  obtain ⟨W2, hW2⟩ : ∃ W2, (W.alloc (.cells #[.int .i64 x1, .int .i64 x2, .int .i64 x3] 131)).alloc (.cells #[.int .i64 y1, .int .i64 y2, .int .i64 y3] 131) = W2 := ⟨_, rfl⟩
  rw [hW2] at k1 k2
  have HW := Lib.hid hW2
  have c0 := cell_at k1 0
  have c1 := cell_at k1 1
  have d0 := cell_at k2 0
  have d1 := cell_at k2 1
  simp only [List.getElem?_toArray, List.getElem?_cons_zero, List.getElem?_cons_succ] at c0 c1 d0 d1
  obtain ⟨a, ha⟩ : ∃ a, cmpI x1 y1 = a := ⟨_, rfl⟩
  obtain ⟨b, hb⟩ : ∃ b, cmpI x2 y2 = b := ⟨_, rfl⟩
  have q1 := fun V => ha ▸ compare_i x1 y1 V
  have q2 := fun V => hb ▸ compare_i x2 y2 V
  rw [ha, hb]
  clear hW2 k1 k2 ha hb
  go_enter Try.func91, Try.ntmps91
  go_wp2_with fail
  rw [HW.out]
  refine wp_region_quiet_tail (C := fun w' => ∃ n, w' = W2.drewN n) 14 (by kernel_rfl) (by kernel_rfl) ⟨1, rfl⟩ ?_
  simp only [List.take_succ_cons, List.take_zero, List.drop_succ_cons, List.drop_zero]
  repeat (quiet_step (first | (go_at_call_of 93 (Value.int .i64 x1); exact quiet_left (q1 _)) | (go_at_call_of 93 (Value.int .i64 x2); exact quiet_left (q2 _))))
  refine wpQuiet_nil ?_
  rintro w3 ⟨n, rfl⟩
  go_wp2_with fail
  refine (or_two (heap_alloc_new (W2.drewN n) _)).mono ?_
  rintro e w4 ⟨rfl, rfl⟩
  go_wp2_with fail
  go_ret
  refine ⟨rfl, n, #[.cells #[.int .i64 x1, .int .i64 x2, .int .i64 x3] 131, .cells #[.int .i64 y1, .int .i64 y2, .int .i64 y3] 131, .cells #[.int .i64 a, .int .i64 b] 3], ?_⟩
  rw [← HW.out]
  simp only [grow, World.drewN, World.alloc]
  congr 1
end Go.Proofs.Ythinomhjhkhidaa.SeqM
