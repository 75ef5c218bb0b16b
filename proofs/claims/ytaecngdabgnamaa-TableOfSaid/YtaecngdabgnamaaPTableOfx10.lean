-- PRINTED BY print.sh 35421559b90ae4d0a3588c463048766b98c2df88dd9212a6774a882060cdf62d: not written by this session
import Derived.Test.YtaecngdabgnamaaPTableOfx0
import Derived.Test.YtaecngdabgnamaaPTableOfx8
import Derived.Test.YtaecngdabgnamaaPTableOfx9
namespace Go.Proofs.Ytaecngdabgnamaa.PTableOf
open Go.RowKit Go.Proofs.YtaecngdabgnamaaW.PrintWords Go.Proofs.YtaecngdabgnamaaW.PrintLast Go.Proofs.YtaecngdabgnamaaW.PrintMore
attribute [local go_sem] max2_int min2_int max_two min_two max_three min_three max_four min_four   -- for this text's walks alone
set_option linter.unusedVariables false
set_option linter.unusedSimpArgs false

/-! ### gluepotlaw08_awake: function 31 -/
def gluepotlaw08_awake.f (k : Nat)  : Option (Bool) := (table_Weight.f k (([(⟨(⟨#[97, 98]⟩ : ByteArray), 3⟩ : S109), (⟨(⟨#[98]⟩ : ByteArray), 2⟩ : S109)] : List (S109)))).bind fun bt134 => (if bt134.2 = true then (if bt134.1 = 3 then ((table_Positions.f k (([(⟨(⟨#[97, 98]⟩ : ByteArray), 3⟩ : S109), (⟨(⟨#[98]⟩ : ByteArray), 2⟩ : S109)] : List (S109)))).bind fun t139 => (some (t139 == 3))) else (some false)) else (some false))
theorem gluepotlaw08_awake.mono : ∀ k, LeO (gluepotlaw08_awake.f k ) (gluepotlaw08_awake.f (k + 1) ) := by
  intro  k
  unfold gluepotlaw08_awake.f
  repeat' first
      | (with_reducible exact table_Positions.mono _ _)
      | (with_reducible exact table_Weight.mono _ _)
      | (with_reducible exact LeO.refl _)
      | (with_reducible exact LeO.none _)
      | (with_reducible refine LeO.ite ?_ ?_)
      | (with_reducible refine LeO.bind ?_ (fun _ => ?_))
      | exact table_Positions.mono _ _
      | exact table_Weight.mono _ _
      | exact LeO.none _
      | refine LeO.ite ?_ ?_
      | refine LeO.bind ?_ (fun _ => ?_)
set_option maxHeartbeats 8000000 in
set_option maxRecDepth 100000 in
theorem gluepotlaw08_awake.calls (k : Nat)  (r : Bool) (w : World) (h : gluepotlaw08_awake.f k  = some r) :
    Calls Try.prog 31 #[] w fun e w' => e = .returned (.bool r) ∧ Below w.heap.size w w' := by
  have hu109 := Try.underlying109
  have HB := Aside0.mk (Below.refl w.heap.size w)
  have H : ((table_Weight.f k (([(⟨(⟨#[97, 98]⟩ : ByteArray), 3⟩ : S109), (⟨(⟨#[98]⟩ : ByteArray), 2⟩ : S109)] : List (S109)))).bind fun bt134 => (if bt134.2 = true then (if bt134.1 = 3 then ((table_Positions.f k (([(⟨(⟨#[97, 98]⟩ : ByteArray), 3⟩ : S109), (⟨(⟨#[98]⟩ : ByteArray), 2⟩ : S109)] : List (S109)))).bind fun t139 => (some (t139 == 3))) else (some false)) else (some false))) = some r := h
  clear h
  obtain ⟨y131, hy131⟩ : ∃ y_ : List (S109), y_ = (([(⟨(⟨#[97, 98]⟩ : ByteArray), 3⟩ : S109), (⟨(⟨#[98]⟩ : ByteArray), 2⟩ : S109)] : List (S109))) := ⟨_, rfl⟩
  replace H : ((table_Weight.f k y131).bind fun bt134 => (if bt134.2 = true then (if bt134.1 = 3 then ((table_Positions.f k (([(⟨(⟨#[97, 98]⟩ : ByteArray), 3⟩ : S109), (⟨(⟨#[98]⟩ : ByteArray), 2⟩ : S109)] : List (S109)))).bind fun t139 => (some (t139 == 3))) else (some false)) else (some false))) = some r := by first | (rw [hy131]; with_reducible exact H) | (have H2_ := (Option.bind_some _ _).symm.trans H; rw [hy131]; with_reducible exact H2_) | (have H2_ := (Option.bind_some _ _).symm.trans H; with_reducible exact H2_) | with_reducible exact H | (rw [hy131]; exact H) | exact H
  have Ny131 := Aside0.mk hy131
  clear hy131
  replace H := Option.bind_eq_some_iff.mp H
  obtain ⟨⟨t134, t135⟩, A10, H⟩ := H
  replace H : (if t135 = true then (if t134 = 3 then ((table_Positions.f k (([(⟨(⟨#[97, 98]⟩ : ByteArray), 3⟩ : S109), (⟨(⟨#[98]⟩ : ByteArray), 2⟩ : S109)] : List (S109)))).bind fun t139 => (some (t139 == 3))) else (some false)) else (some false)) = some r := H
  have A1 := Aside0.mk A10
  clear A10
  by_cases c2 : t135 = true
  · subst c2
    have H1 : (if t134 = 3 then ((table_Positions.f k (([(⟨(⟨#[97, 98]⟩ : ByteArray), 3⟩ : S109), (⟨(⟨#[98]⟩ : ByteArray), 2⟩ : S109)] : List (S109)))).bind fun t139 => (some (t139 == 3))) else (some false)) = some r := by rw [if_pos rfl] at H; exact H
    clear H
    have H := H1
    clear H1
    by_cases c3 : t134 = 3
    · rw [if_pos c3] at H
      have c3b0 : (t134 == 3) = true := beq_iff_eq.mpr c3
      have c3b1 : (t134 != 3) = false := bne_eq_false_iff_eq.mpr c3
      clear c3
      obtain ⟨y136, hy136⟩ : ∃ y_ : List (S109), y_ = (([(⟨(⟨#[97, 98]⟩ : ByteArray), 3⟩ : S109), (⟨(⟨#[98]⟩ : ByteArray), 2⟩ : S109)] : List (S109))) := ⟨_, rfl⟩
      replace H : ((table_Positions.f k y136).bind fun t139 => (some (t139 == 3))) = some r := by first | (rw [hy136]; with_reducible exact H) | (have H2_ := (Option.bind_some _ _).symm.trans H; rw [hy136]; with_reducible exact H2_) | (have H2_ := (Option.bind_some _ _).symm.trans H; with_reducible exact H2_) | with_reducible exact H | (rw [hy136]; exact H) | exact H
      have Ny136 := Aside0.mk hy136
      clear hy136
      replace H := Option.bind_eq_some_iff.mp H
      obtain ⟨t139, A40, H⟩ := H
      replace H : (some (t139 == 3)) = some r := H
      have A4 := Aside0.mk A40
      clear A40
      obtain rfl := Option.some.inj H
      go_enter Try.func31, Try.ntmps31
      go_wp2_with (first | ((with_reducible refine gate_dst (N := 6) rfl ?_); (try (refine gate_guard (by rfl) ?_; dsimp only)); refine Kd.R_lit k109 _ 109 ?hg (N := 6) ?hd (xs := ([(⟨(⟨#[97, 98]⟩ : ByteArray), 3⟩ : S109), (⟨(⟨#[98]⟩ : ByteArray), 2⟩ : S109)] : List (S109))) (inner := [.string (⟨#[97, 98]⟩ : ByteArray), .int .i64 3, .string (⟨#[98]⟩ : ByteArray), .int .i64 2]) (ok := fun _ => True) (okp := fun _ => True) ?hr ?hp (fun _ hk => hk) trivial (Below.refl _ _) (Nat.le_refl _) (by simp) ?_; (case hd => rfl); (case hg => rfl); (case hr => first | (go_simp; done) | (go_simp; rfl)); (case hp => exact (Reps.c2 (show Kd.M k109 _ _ _ (⟨(⟨#[97, 98]⟩ : ByteArray), 3⟩ : S109) [.string (⟨#[97, 98]⟩ : ByteArray), .int .i64 3] from (k109_mkM _ _ _ (⟨(⟨#[97, 98]⟩ : ByteArray), 3⟩ : S109) )) (Reps.c2 (show Kd.M k109 _ _ _ (⟨(⟨#[98]⟩ : ByteArray), 2⟩ : S109) [.string (⟨#[98]⟩ : ByteArray), .int .i64 2] from (k109_mkM _ _ _ (⟨(⟨#[98]⟩ : ByteArray), 2⟩ : S109) )) (Reps.none _ _)))); intro v132 w5 ho6 hb hg_ hnew_; clear hg_ hnew_; (first | rw [← Ny131.out] at ho6 | (simp only [Int.reduceToNat] at ho6; rw [← Ny131.out] at ho6)); have n0_ := Aside0.mk (Kd.R_lower ho6 (below_size (by repeat (first | (with_reducible first | exact HB.out | apply below_alloc | apply pw_below_drewN | apply below_drew1) | exact HB.out)))); have n1_ := Aside0.mk (below_step (by repeat (first | (with_reducible first | exact HB.out | apply below_alloc | apply pw_below_drewN | apply below_drew1) | exact HB.out)) hb); clear HB; have HO133 := n0_; have HB := n1_; clear n0_ n1_; clear hb ho6; obtain ⟨Ao7, co7, eo7⟩ := Kd.R_slice HO133.out; subst eo7) | ((with_reducible refine gate_callee (f := 53) rfl ?_); refine goesL_ (some 7) rfl rfl Try.func53 (by kernel_rfl) rfl #[.slice Ao7 y131.length co7] rfl (by (try simp only [List.map_toArray, List.map_cons, List.map_nil]); first | done | rfl | (simp only [List.length_drop, List.length_take]; rfl)) ?_; (with_reducible refine (table_Weight.calls k _ _ y131 t134 true _ ?side1 ?side2 A1.out).mono ?_); (case side1 => repeat (first | exact (Kd.R_reads' HO133.out).2.2 | (with_reducible refine Kd.C_alloc ?_ _) | (with_reducible refine Kd.C_drewN ?_ _) | (with_reducible refine Kd.C_drew ?_))); (case side2 => exact (Kd.R_reads' HO133.out).2.1); rintro e w8 ⟨rfl, hb⟩; refine ⟨_, rfl, ?_⟩; have n0_ := Aside0.mk (Kd.R_below (by (with_reducible repeat (first | apply Kd.R_alloc | apply Kd.R_drewN | apply Kd.R_drew)); exact HO133.out) hb); have n1_ := Aside0.mk (below_step (by repeat (first | (with_reducible first | exact HB.out | apply below_alloc | apply pw_below_drewN | apply below_drew1) | exact HB.out)) hb); clear HO133; clear HB; have HO133 := n0_; have HB := n1_; clear n0_ n1_; (try clear hb); (try clear hb2); (try clear hk); (try clear hi)) | ((with_reducible refine gate_dst (N := 18) rfl ?_); (try (refine gate_guard (by rfl) ?_; dsimp only)); refine Kd.R_lit k109 _ 109 ?hg (N := 18) ?hd (xs := ([(⟨(⟨#[97, 98]⟩ : ByteArray), 3⟩ : S109), (⟨(⟨#[98]⟩ : ByteArray), 2⟩ : S109)] : List (S109))) (inner := [.string (⟨#[97, 98]⟩ : ByteArray), .int .i64 3, .string (⟨#[98]⟩ : ByteArray), .int .i64 2]) (ok := fun _ => True) (okp := fun _ => True) ?hr ?hp (fun _ hk => hk) trivial (Below.refl _ _) (Nat.le_refl _) (by simp) ?_; (case hd => rfl); (case hg => rfl); (case hr => first | (go_simp; done) | (go_simp; rfl)); (case hp => exact (Reps.c2 (show Kd.M k109 _ _ _ (⟨(⟨#[97, 98]⟩ : ByteArray), 3⟩ : S109) [.string (⟨#[97, 98]⟩ : ByteArray), .int .i64 3] from (k109_mkM _ _ _ (⟨(⟨#[97, 98]⟩ : ByteArray), 3⟩ : S109) )) (Reps.c2 (show Kd.M k109 _ _ _ (⟨(⟨#[98]⟩ : ByteArray), 2⟩ : S109) [.string (⟨#[98]⟩ : ByteArray), .int .i64 2] from (k109_mkM _ _ _ (⟨(⟨#[98]⟩ : ByteArray), 2⟩ : S109) )) (Reps.none _ _)))); intro v137 w9 ho10 hb hg_ hnew_; clear hg_ hnew_; (first | rw [← Ny136.out] at ho10 | (simp only [Int.reduceToNat] at ho10; rw [← Ny136.out] at ho10)); have n0_ := Aside0.mk (Kd.R_elder' (by (with_reducible repeat (first | apply Kd.R_alloc | apply Kd.R_drewN | apply Kd.R_drew)); exact HO133.out) (Kd.R_base ho10) hb); have n1_ := Aside0.mk (Kd.R_lower (Kd.R_new' ho10 (Kd.R_lt (by (with_reducible repeat (first | apply Kd.R_alloc | apply Kd.R_drewN | apply Kd.R_drew)); exact HO133.out))) (below_size (by repeat (first | (with_reducible first | exact HB.out | apply below_alloc | apply pw_below_drewN | apply below_drew1) | exact HB.out)))); have n2_ := Aside0.mk (below_step (by repeat (first | (with_reducible first | exact HB.out | apply below_alloc | apply pw_below_drewN | apply below_drew1) | exact HB.out)) hb); clear HO133; clear HB; have HO133 := n0_; have HO138 := n1_; have HB := n2_; clear n0_ n1_ n2_; clear hb ho10; obtain ⟨Ao11, co11, eo11⟩ := Kd.R_slice HO138.out; subst eo11) | (go_at_call 54; (with_reducible refine (table_Positions.calls k _ _ y136 t139 _ ?side1 ?side2 A4.out).mono ?_); (case side1 => repeat (first | exact (Kd.R_reads' HO138.out).2.2 | (with_reducible refine Kd.C_alloc ?_ _) | (with_reducible refine Kd.C_drewN ?_ _) | (with_reducible refine Kd.C_drew ?_))); (case side2 => exact (Kd.R_reads' HO138.out).2.1); rintro e w12 ⟨rfl, hb⟩; have n0_ := Aside0.mk (Kd.R_below (by (with_reducible repeat (first | apply Kd.R_alloc | apply Kd.R_drewN | apply Kd.R_drew)); exact HO133.out) hb); have n1_ := Aside0.mk (Kd.R_below (by (with_reducible repeat (first | apply Kd.R_alloc | apply Kd.R_drewN | apply Kd.R_drew)); exact HO138.out) hb); have n2_ := Aside0.mk (below_step (by repeat (first | (with_reducible first | exact HB.out | apply below_alloc | apply pw_below_drewN | apply below_drew1) | exact HB.out)) hb); clear HO133; clear HO138; clear HB; have HO133 := n0_; have HO138 := n1_; have HB := n2_; clear n0_ n1_ n2_; (try clear hb); (try clear hb2); (try clear hk); (try clear hi)))
      go_ret
      exact ⟨by first | rfl | (simp [errW_none, errW_some] <;> rfl) | (simp [*, errW_none, errW_some] <;> rfl), by repeat (first | (with_reducible first | exact HB.out | apply below_alloc | apply pw_below_drewN | apply below_drew1) | exact HB.out)⟩
    · rw [if_neg c3] at H
      have c3b0 : (t134 == 3) = false := beq_eq_false_iff_ne.mpr c3
      have c3b1 : (t134 != 3) = true := bne_iff_ne.mpr c3
      obtain rfl := Option.some.inj H
      go_enter Try.func31, Try.ntmps31
      go_wp2_with (first | ((with_reducible refine gate_dst (N := 6) rfl ?_); (try (refine gate_guard (by rfl) ?_; dsimp only)); refine Kd.R_lit k109 _ 109 ?hg (N := 6) ?hd (xs := ([(⟨(⟨#[97, 98]⟩ : ByteArray), 3⟩ : S109), (⟨(⟨#[98]⟩ : ByteArray), 2⟩ : S109)] : List (S109))) (inner := [.string (⟨#[97, 98]⟩ : ByteArray), .int .i64 3, .string (⟨#[98]⟩ : ByteArray), .int .i64 2]) (ok := fun _ => True) (okp := fun _ => True) ?hr ?hp (fun _ hk => hk) trivial (Below.refl _ _) (Nat.le_refl _) (by simp) ?_; (case hd => rfl); (case hg => rfl); (case hr => first | (go_simp; done) | (go_simp; rfl)); (case hp => exact (Reps.c2 (show Kd.M k109 _ _ _ (⟨(⟨#[97, 98]⟩ : ByteArray), 3⟩ : S109) [.string (⟨#[97, 98]⟩ : ByteArray), .int .i64 3] from (k109_mkM _ _ _ (⟨(⟨#[97, 98]⟩ : ByteArray), 3⟩ : S109) )) (Reps.c2 (show Kd.M k109 _ _ _ (⟨(⟨#[98]⟩ : ByteArray), 2⟩ : S109) [.string (⟨#[98]⟩ : ByteArray), .int .i64 2] from (k109_mkM _ _ _ (⟨(⟨#[98]⟩ : ByteArray), 2⟩ : S109) )) (Reps.none _ _)))); intro v132 w13 ho14 hb hg_ hnew_; clear hg_ hnew_; (first | rw [← Ny131.out] at ho14 | (simp only [Int.reduceToNat] at ho14; rw [← Ny131.out] at ho14)); have n0_ := Aside0.mk (Kd.R_lower ho14 (below_size (by repeat (first | (with_reducible first | exact HB.out | apply below_alloc | apply pw_below_drewN | apply below_drew1) | exact HB.out)))); have n1_ := Aside0.mk (below_step (by repeat (first | (with_reducible first | exact HB.out | apply below_alloc | apply pw_below_drewN | apply below_drew1) | exact HB.out)) hb); clear HB; have HO133 := n0_; have HB := n1_; clear n0_ n1_; clear hb ho14; obtain ⟨Ao15, co15, eo15⟩ := Kd.R_slice HO133.out; subst eo15) | ((with_reducible refine gate_callee (f := 53) rfl ?_); refine goesL_ (some 7) rfl rfl Try.func53 (by kernel_rfl) rfl #[.slice Ao15 y131.length co15] rfl (by (try simp only [List.map_toArray, List.map_cons, List.map_nil]); first | done | rfl | (simp only [List.length_drop, List.length_take]; rfl)) ?_; (with_reducible refine (table_Weight.calls k _ _ y131 t134 true _ ?side1 ?side2 A1.out).mono ?_); (case side1 => repeat (first | exact (Kd.R_reads' HO133.out).2.2 | (with_reducible refine Kd.C_alloc ?_ _) | (with_reducible refine Kd.C_drewN ?_ _) | (with_reducible refine Kd.C_drew ?_))); (case side2 => exact (Kd.R_reads' HO133.out).2.1); rintro e w16 ⟨rfl, hb⟩; refine ⟨_, rfl, ?_⟩; have n0_ := Aside0.mk (Kd.R_below (by (with_reducible repeat (first | apply Kd.R_alloc | apply Kd.R_drewN | apply Kd.R_drew)); exact HO133.out) hb); have n1_ := Aside0.mk (below_step (by repeat (first | (with_reducible first | exact HB.out | apply below_alloc | apply pw_below_drewN | apply below_drew1) | exact HB.out)) hb); clear HO133; clear HB; have HO133 := n0_; have HB := n1_; clear n0_ n1_; (try clear hb); (try clear hb2); (try clear hk); (try clear hi)))
      go_ret
      exact ⟨by first | rfl | (simp [errW_none, errW_some] <;> rfl) | (simp [*, errW_none, errW_some] <;> rfl), by repeat (first | (with_reducible first | exact HB.out | apply below_alloc | apply pw_below_drewN | apply below_drew1) | exact HB.out)⟩
  · replace c2 := Bool.eq_false_iff.mpr c2
    subst c2
    have H1 : (some false) = some r := by rw [if_neg (show ¬ (false = true) by decide)] at H; exact H
    clear H
    have H := H1
    clear H1
    obtain rfl := Option.some.inj H
    go_enter Try.func31, Try.ntmps31
    go_wp2_with (first | ((with_reducible refine gate_dst (N := 6) rfl ?_); (try (refine gate_guard (by rfl) ?_; dsimp only)); refine Kd.R_lit k109 _ 109 ?hg (N := 6) ?hd (xs := ([(⟨(⟨#[97, 98]⟩ : ByteArray), 3⟩ : S109), (⟨(⟨#[98]⟩ : ByteArray), 2⟩ : S109)] : List (S109))) (inner := [.string (⟨#[97, 98]⟩ : ByteArray), .int .i64 3, .string (⟨#[98]⟩ : ByteArray), .int .i64 2]) (ok := fun _ => True) (okp := fun _ => True) ?hr ?hp (fun _ hk => hk) trivial (Below.refl _ _) (Nat.le_refl _) (by simp) ?_; (case hd => rfl); (case hg => rfl); (case hr => first | (go_simp; done) | (go_simp; rfl)); (case hp => exact (Reps.c2 (show Kd.M k109 _ _ _ (⟨(⟨#[97, 98]⟩ : ByteArray), 3⟩ : S109) [.string (⟨#[97, 98]⟩ : ByteArray), .int .i64 3] from (k109_mkM _ _ _ (⟨(⟨#[97, 98]⟩ : ByteArray), 3⟩ : S109) )) (Reps.c2 (show Kd.M k109 _ _ _ (⟨(⟨#[98]⟩ : ByteArray), 2⟩ : S109) [.string (⟨#[98]⟩ : ByteArray), .int .i64 2] from (k109_mkM _ _ _ (⟨(⟨#[98]⟩ : ByteArray), 2⟩ : S109) )) (Reps.none _ _)))); intro v132 w17 ho18 hb hg_ hnew_; clear hg_ hnew_; (first | rw [← Ny131.out] at ho18 | (simp only [Int.reduceToNat] at ho18; rw [← Ny131.out] at ho18)); have n0_ := Aside0.mk (Kd.R_lower ho18 (below_size (by repeat (first | (with_reducible first | exact HB.out | apply below_alloc | apply pw_below_drewN | apply below_drew1) | exact HB.out)))); have n1_ := Aside0.mk (below_step (by repeat (first | (with_reducible first | exact HB.out | apply below_alloc | apply pw_below_drewN | apply below_drew1) | exact HB.out)) hb); clear HB; have HO133 := n0_; have HB := n1_; clear n0_ n1_; clear hb ho18; obtain ⟨Ao19, co19, eo19⟩ := Kd.R_slice HO133.out; subst eo19) | ((with_reducible refine gate_callee (f := 53) rfl ?_); refine goesL_ (some 7) rfl rfl Try.func53 (by kernel_rfl) rfl #[.slice Ao19 y131.length co19] rfl (by (try simp only [List.map_toArray, List.map_cons, List.map_nil]); first | done | rfl | (simp only [List.length_drop, List.length_take]; rfl)) ?_; (with_reducible refine (table_Weight.calls k _ _ y131 t134 false _ ?side1 ?side2 A1.out).mono ?_); (case side1 => repeat (first | exact (Kd.R_reads' HO133.out).2.2 | (with_reducible refine Kd.C_alloc ?_ _) | (with_reducible refine Kd.C_drewN ?_ _) | (with_reducible refine Kd.C_drew ?_))); (case side2 => exact (Kd.R_reads' HO133.out).2.1); rintro e w20 ⟨rfl, hb⟩; refine ⟨_, rfl, ?_⟩; have n0_ := Aside0.mk (Kd.R_below (by (with_reducible repeat (first | apply Kd.R_alloc | apply Kd.R_drewN | apply Kd.R_drew)); exact HO133.out) hb); have n1_ := Aside0.mk (below_step (by repeat (first | (with_reducible first | exact HB.out | apply below_alloc | apply pw_below_drewN | apply below_drew1) | exact HB.out)) hb); clear HO133; clear HB; have HO133 := n0_; have HB := n1_; clear n0_ n1_; (try clear hb); (try clear hb2); (try clear hk); (try clear hi)))
    go_ret
    exact ⟨by first | rfl | (simp [errW_none, errW_some] <;> rfl) | (simp [*, errW_none, errW_some] <;> rfl), by repeat (first | (with_reducible first | exact HB.out | apply below_alloc | apply pw_below_drewN | apply below_drew1) | exact HB.out)⟩

end Go.Proofs.Ytaecngdabgnamaa.PTableOf
