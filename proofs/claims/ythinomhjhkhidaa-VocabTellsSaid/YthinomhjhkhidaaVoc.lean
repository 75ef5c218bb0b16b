/- Layer 21: a vocabulary in memory; New, walked. -/
import Derived.Test.YthinomhjhkhidaaVocPure
import Derived.Test.YthinomhjhkhidaaFileJoin
import Derived.Test.YthinomhjhkhidaaRefFile
import Derived.Test.YthinomhjhkhidaaMShut
import Derived.Test.YthinomhjhkhidaaFreqPure
import Derived.Maps.AppendAt
import Derived.StillTailTactics
import Derived.WalkSpells
import Derived.RegionTactic
import Derived.BigRegion
namespace Go.Proofs.Ythinomhjhkhidaa.Voc
open Go.RowKit Go.Maps Go.ChangeShapes Go.WideShapes Go.Deep Go.Proofs.YthinomhjhkhidaaW.PrintWords Go.Proofs.YthinomhjhkhidaaW.PrintLast Go.Proofs.YthinomhjhkhidaaW.PrintMore Base Foot ExtTail SymPure Kinds FilePure FileJoin SMap
set_option linter.unusedVariables false
set_option linter.unusedSimpArgs false
attribute [local go_sem ↓] Go.wp_at_zero Go.wp_at_succ
attribute [local go_sem] max2_int min2_int max_two min_two

abbrev tV : TypeId := 75
/-- a vocabulary at block b -/
structure VT (w : World) (b md mu : Nat) (D U : List Wd) (k : Int) : Prop where
  blk : w.heap[b]? = some (.cells #[.map (some md), .map (some mu), .int .i64 k] tV (0, 0))
  pd : PM w md D
  pu : PM w mu U
theorem VT.keep {w w' : World} {b md mu : Nat} {D U : List Wd} {k : Int} (h : VT w b md mu D U k) (hk : ∀ j, j < w.heap.size → w'.heap[j]? = w.heap[j]?) : VT w' b md mu D U k :=
  ⟨(hk b (block_lt h.blk)).trans h.blk, h.pd.keep (hk _ h.pd.lt), h.pu.keep (hk _ h.pu.lt)⟩
theorem VT.below {w w' : World} {b md mu : Nat} {D U : List Wd} {k : Int} (h : VT w b md mu D U k) (hb : Below w.heap.size w w') : VT w' b md mu D U k := h.keep fun j hj => hb.block j hj
theorem VT.ne {w : World} {b md mu : Nat} {D U : List Wd} {k : Int} (h : VT w b md mu D U k) : b ≠ md ∧ b ≠ mu := by
  constructor
  · rintro rfl
    obtain ⟨es, cl, h2⟩ := h.pd.map
    rw [h.blk] at h2; cases h2
  · rintro rfl
    obtain ⟨es, cl, h2⟩ := h.pu.map
    rw [h.blk] at h2; cases h2
theorem VT.putD {w w' : World} {b md mu : Nat} {D D' U : List Wd} {k : Int} (h : VT w b md mu D U k) (hne : mu ≠ md) (hm : PM w' md D') (hg : w.grownBy w' (some md)) : VT w' b md mu D' U k :=
  ⟨grown_blk hg h.blk (by simpa using h.ne.1), hm, h.pu.keep (hg.block _ h.pu.lt (by simpa using hne))⟩
theorem VT.putU {w w' : World} {b md mu : Nat} {D U U' : List Wd} {k : Int} (h : VT w b md mu D U k) (hne : mu ≠ md) (hm : PM w' mu U') (hg : w.grownBy w' (some mu)) : VT w' b md mu D U' k :=
  ⟨grown_blk hg h.blk (by simpa using h.ne.2), h.pd.keep (hg.block _ h.pd.lt (by simpa using hne.symm)), hm⟩
theorem conv_one (W : World) (i : Nat) (hi : i < 256) :
    (convert 76 9 (.slice (some ⟨W.heap.size, 0, none⟩) 1 1)).run Try.prog (W.alloc (.cells #[.int .u8 (i : Int)] 5)) = .ok (.string (byteS (i : Int))) (W.alloc (.cells #[.int .u8 (i : Int)] 5)) := by
  have := run_convert_bytes_arg (P := Try.prog) (w := W.alloc (.cells #[.int .u8 (i : Int)] 5)) 76 5 Try.underlying76 Try.underlying5 W.heap.size 0 1 1 [(i : Int)] rfl (by
    intro j hj
    obtain rfl : j = 0 := by omega
    rw [cell_at (heap_alloc_new W _)]
    rfl) 9 Try.underlying9
  exact this
theorem put_run {W : World} {mb : Nat} {L : List Wd} (h : PM W mb L) (hl : L.length ≤ 1000000) {p : ByteArray} {n : Int} (hp : SS p) (hn : In64 n) :
    ∃ w', (Instr.mapUpdate 73 (.map (some mb)) (.string p) (.int .i64 n)).run Try.prog W = .ok () w' ∧ PM w' mb (putL L p n) ∧ W.grownBy w' (some mb) := by
  obtain ⟨D, h1, h2⟩ := h
  obtain ⟨w', q0, q1, q2⟩ := h1.update kyd Try.underlying73 (by unfold maxLen; omega) (key_of hp) (plainElem_int Try.underlying3 (wf_of hn))
  exact ⟨w', q0, PM.of q1 (h2.put (h1.tidy kyd) hp hn), q2⟩
theorem ss_small {s : ByteArray} (h : s.size ≤ 100000) : SS s := by unfold SS maxLen; omega

set_option maxHeartbeats 6400000 in
set_option maxRecDepth 100000 in
theorem new_any (A : Option Addr) (cp : Nat) (l : List Mg) (w : World) (hr : Kd.C kSS w A l.length l) (hg : ∀ m ∈ l, m.1.size ≤ 1000 ∧ m.2.size ≤ 1000) (hl : l.length ≤ 1000) :
    Calls Try.prog 10 #[.slice A l.length cp] w fun e w' => ∃ v, e = .returned (.tuple #[v, .int .i64 (chk [] l).2]) ∧ Below w.heap.size w w' ∧ ((chk [] l).2 ≠ 0 → v = .pointer none) ∧
      ((chk [] l).2 = 0 → ∃ b md mu, v = .pointer (some ⟨b, 0, none⟩) ∧ VT w' b md mu (vD l) (vU l) (vM l)) := by
  have hmm := @run_makeMap Try.prog
  have HG := Lib.hid hg
  have hck := check_any A cp l w hr (fun m hm => by have := hg m hm; unfold maxLen; omega) (by omega)
  obtain ⟨ck, hc⟩ : ∃ ck, chk [] l = ck := ⟨_, rfl⟩
  rw [hc] at hck ⊢
  obtain ⟨ca, ce⟩ := ck
  simp only at hck ⊢
  clear hg
  go_enter Try.func10, Try.ntmps10
  go_wp2_with fail
  refine hck.mono ?_
  rintro e w1 ⟨rfl, b1⟩
  clear hck
  by_cases h0 : ce = 0
  · subst h0
    have hB1 := Lib.hid b1
    have hm1 := PM.made w1
    have hm2 := PM.made (w1.alloc (.map #[] 0))
    simp only [World.size_alloc] at hm2
    have k3 := heap_alloc_new ((w1.alloc (.map #[] 0)).alloc (.map #[] 0)) (.cells #[.map (some w1.heap.size), .map (some (w1.heap.size + 1)), .int .i64 1] tV)
    simp only [World.size_alloc] at k3
    have hs1 := b1.size
    have hb3 := ((b1.alloc b1.size (.map #[] 0)).alloc (by simp; omega) (.map #[] 0)).alloc (by simp; omega) (.cells #[.map (some w1.heap.size), .map (some (w1.heap.size + 1)), .int .i64 1] tV)
    have HV := Lib.hid (show VT _ (w1.heap.size + 1 + 1) w1.heap.size (w1.heap.size + 1) [] [] 1 from ⟨k3, hm1.below (((Below.refl _ _).alloc (Nat.le_refl _) _).alloc (by simp) _), hm2.below ((Below.refl _ _).alloc (Nat.le_refl _) _)⟩)
    have HB3 := Lib.hid hb3
    clear hm1 hm2 k3 hb3 b1 hB1
    go_wp2_with fail
    generalize ((w1.alloc (.map #[] 0)).alloc (.map #[] 0)).alloc (.cells #[.map (some w1.heap.size), .map (some (w1.heap.size + 1)), .int .i64 1] tV) = w3 at *
    go_loopw [23] (fun v23 wr => ∃ i : Nat, i ≤ 256 ∧ v23 = .int .i64 (i : Int) ∧ Hid (VT wr (w1.heap.size + 1 + 1) w1.heap.size (w1.heap.size + 1) (D0 i) [] 1) ∧ Hid (Below w.heap.size w wr)) (fun i _ => 256 - (intOf i).toNat)
    case atStart => exact ⟨0, by omega, rfl, HV, HB3⟩
    case round =>
      clear HV HB3
      obtain ⟨i, hi, rfl, HV, HB⟩ := hrel
      have hi0 : (0 : Int) ≤ (i : Int) := by omega
      by_cases hlt : i < 256
      · have hli : (i : Int) < 256 := by omega
        have hw8 : IntKind.u8.wrap (i : Int) = (i : Int) := by
          have : (i : Int) % 256 = (i : Int) := Int.emod_eq_of_lt hi0 hli
          simp [IntKind.wrap, IntKind.signed, IntKind.bits, this]
        have c0 := cell_at HV.out.blk 0
        simp only [List.getElem?_toArray, List.getElem?_cons_zero] at c0
        have c1 : (wr.alloc (.cells #[.int .u8 (i : Int)] 5)).cell? ⟨w1.heap.size + 1 + 1, 0, none⟩ = some (.map (some w1.heap.size)) := (World.cell?_alloc_lt _ _ _ (World.block_lt_of_cell? wr _ c0)).trans c0
        have hcv : (convert 76 9 (.slice (some ⟨wr.heap.size, 0, none⟩) 1 1)).run Try.prog (wr.alloc (.cells #[.int .u8 (i : Int)] 5)).drew = .ok (.string (byteS (i : Int))) (wr.alloc (.cells #[.int .u8 (i : Int)] 5)).drew := conv_one wr.drew i hlt
        have hba := ((Below.refl _ wr).alloc (Nat.le_refl _) (.cells #[.int .u8 (i : Int)] 5)).drew
        have HV6 := Lib.hid (HV.out.below hba)
        have hlen := (D0_len i (by omega)).1
        obtain ⟨w8, hput, hm8, hg8⟩ := put_run HV6.out.pd (by omega) (p := byteS (i : Int)) (n := 0) (ss_small (by rw [byteS_size]; omega)) (by unfold In64; omega)
        have HM8 := Lib.hid hm8
        have HG8 := Lib.hid hg8
        have hba2 := hba
        have HBA := Lib.hid hba2
        clear hba hba2 hm8 hg8
        go_wp2_with fail
        go_region
        go_wp2_with fail
        go_roundw
        case rel =>
          have hne := HV6.out.ne
          exact ⟨i + 1, by omega, by go_num, Lib.hid ⟨grown_blk HG8.out HV6.out.blk (by simpa using hne.1), HM8.out, HV6.out.pu.keep (HG8.out.block _ HV6.out.pu.lt (by simp))⟩, Lib.hid ((HB.out.trans (HBA.out.mono HB.out.size)).grown HG8.out (by simp [World.drew]; have := HB.out.size; omega) (fun k e => by cases e; exact hs1))⟩
        case measure => simp [intOf]; omega
      · have e256 : i = 256 := by omega
        have hnl : ¬ (i : Int) < 256 := by omega
        have HV256 := HV.out
        rw [e256] at HV256
        have HV0 := Lib.hid (show VT wr (w1.heap.size + 1 + 1) w1.heap.size (w1.heap.size + 1) (vD (l.take 0)) (vU (l.take 0)) (vM (l.take 0)) from HV256)
        clear HV HV256 hlt e256 hi
        go_wp2_with fail
        have HB0 := HB
        clear HB
        go_loopw [37] (fun v37 wr => ∃ (i : Nat) (D U : List Wd) (k : Int), i ≤ l.length ∧ v37 = .int .i64 (i : Int) ∧ Hid (VT wr (w1.heap.size + 1 + 1) w1.heap.size (w1.heap.size + 1) D U k) ∧ Hid (D = vD (l.take i) ∧ U = vU (l.take i) ∧ k = vM (l.take i)) ∧ Hid (D.length ≤ 256 + i ∧ U.length ≤ 2 * i) ∧ Hid (Below w.heap.size w wr)) (fun i _ => l.length - (intOf i).toNat)
        case atStart => exact ⟨0, _, _, _, by omega, rfl, HV0, Lib.hid ⟨rfl, rfl, rfl⟩, Lib.hid (by constructor; exact Nat.le_of_eq (D0_len 256 (by omega)).1; exact Nat.le_refl _), HB0⟩
        case round =>
          clear HV0 HB0
          obtain ⟨i, D, U, k, hi, rfl, HV, HE, HL, HB⟩ := hrel
          have hi0 : (0 : Int) ≤ (i : Int) := by omega
          by_cases hlt : i < l.length
          · have hli : (i : Int) < (l.length : Int) := by omega
            have hx := List.getElem?_eq_getElem hlt
            have hgx := HG.out _ (List.getElem_mem hlt)
            generalize l[i] = x at hx hgx
            obtain ⟨xa, xb⟩ := x
            obtain ⟨ad, e1, hx0, hx1⟩ := at_SS hr hx
            cases e1
            replace hx0 := (HB.out.cell (World.block_lt_of_cell? w _ hx0)).trans hx0
            replace hx1 := (HB.out.cell (World.block_lt_of_cell? w _ hx1)).trans hx1
            simp only at hx0 hx1 hgx
            have sa : SS xa := ss_small (by omega)
            have sb : SS xb := ss_small (by omega)
            have sx : SS (xa ++ xb) := ss_small (by rw [ByteArray.size_append]; omega)
            have hba := (Below.refl _ wr).alloc (Nat.le_refl _) (.cells #[.string xa, .string xb] 70)
            have hnb := heap_alloc_new wr (.cells #[.string xa, .string xb] 70)
            have z0 := cell_at hnb 0
            have z1 := cell_at hnb 1
            simp only [List.getElem?_toArray, List.getElem?_cons_zero, List.getElem?_cons_succ] at z0 z1
            have HVA := Lib.hid (HV.out.below hba)
            have HBW := Lib.hid (HB.out.trans (hba.mono HB.out.size))
            have HXB := Lib.hid hnb
            have hsz : w1.heap.size ≤ wr.heap.size := by have := HV.out.pd.lt; omega
            have HX := Lib.hid hx
            clear hba hnb hx
            go_wp2_with fail
            obtain ⟨tt, htt⟩ : ∃ tt, xa ++ xb = tt := ⟨_, rfl⟩
            have HTT := Lib.hid htt
            rw [htt] at sx
            simp only [htt]
            clear htt
            have hwz : wr.heap.size < (wr.alloc (.cells #[.string xa, .string xb] 70)).heap.size := by simp
            generalize wr.alloc (.cells #[.string xa, .string xb] 70) = wa at *
            have c0 := cell_at HVA.out.blk 0
            have c1 := cell_at HVA.out.blk 1
            simp only [List.getElem?_toArray, List.getElem?_cons_zero, List.getElem?_cons_succ] at c0 c1
            have q0 := fun g => Ext.cell (u := .string xa) z0 g
            have q1 := fun g => Ext.cell (u := .string xb) z1 g
            have g0 := fun g => Ext.cell (u := .map (some w1.heap.size)) c0 g
            have hda := fun (g : Ext wa) => (HVA.out.pd.below g.below).look_run sa
            have hdb := fun (g : Ext wa) => (HVA.out.pd.below g.below).look_run sb
            have hbd := fun s => vD_bd (l.take i) s
            rw [← HE.out.1] at hbd
            have hba := hbd xa
            have hbb := hbd xb
            have HTL := Lib.hid (show (l.take i).length ≤ 1000 by rw [List.length_take]; omega)
            obtain ⟨va, hva⟩ : ∃ a, (SMap.look D xa).getD 0 = a := ⟨_, rfl⟩
            obtain ⟨vb, hvb⟩ : ∃ a, (SMap.look D xb).getD 0 = a := ⟨_, rfl⟩
            rw [hva] at hda hba
            rw [hvb] at hdb hbb
            obtain ⟨mx, hmx0⟩ : ∃ mx, (if va < vb then vb else va) = mx := ⟨_, rfl⟩
            have hmx1 : max va vb = mx := by rw [← hmx0]; split <;> omega
            have HVD := Lib.hid (show valD D (xa, xb) = 1 + mx by unfold valD; rw [hva, hvb, hmx1])
            have hmx2 : 0 ≤ mx ∧ mx ≤ 1000 := by have := HTL.out; omega
            have hw1 : IntKind.i64.wrap (1 + mx) = 1 + mx := IntWalk.i64_in _ (by omega)
            have hmx : In64 (1 + mx) := by unfold In64; omega
            clear hmx1 hmx2
            clear hbd hva hvb c0 c1 z0 z1 hba hbb
            refine wp_region_ext_tail 21 (by kernel_rfl) (by kernel_rfl) ?_
            simp only [List.take_succ_cons, List.take_zero, List.drop_succ_cons, List.drop_zero]
            repeat (quiet_step (fail))
            refine wpQuiet_nil ?_
            rintro w6 ⟨⟨w7, b6⟩, he⟩
            have he2 : w6 = w7 := he
            subst he2
            have HV6 := Lib.hid (HVA.out.below b6)
            refine wp_put rfl _ _ _ rfl rfl HV6.out.pd (by have := HL.out.1; omega) (p := tt) (n := 1 + mx) rfl rfl sx hmx ?_
            intro w8 hm8 hg8
            have HV8 := Lib.hid (HV6.out.putD (by omega) hm8 hg8)
            have HXB8 := Lib.hid (grown_blk hg8 ((b6.block _ (block_lt HXB.out)).trans HXB.out) (by simpa using (show wr.heap.size ≠ w1.heap.size from by have := HV.out.pd.lt; omega)))
            have HB8 := Lib.hid ((HBW.out.trans (b6.mono HBW.out.size)).grown hg8 (by have := HBW.out.size; have := b6.size; omega) (fun k e => by cases e; exact hs1))
            clear he q0 q1 g0 hda hdb HV6 hm8 hg8 b6 HVA HXB HBW hwz HB
            go_wp2_with fail
            -- uses of the left side
            have z0 := cell_at HXB8.out 0
            have z1 := cell_at HXB8.out 1
            simp only [List.getElem?_toArray, List.getElem?_cons_zero, List.getElem?_cons_succ] at z0 z1
            have c1 := cell_at HV8.out.blk 1
            simp only [List.getElem?_toArray, List.getElem?_cons_zero, List.getElem?_cons_succ] at c1
            have q0 := fun g => Ext.cell (u := .string xa) z0 g
            have g1 := fun g => Ext.cell (u := .map (some (w1.heap.size + 1))) c1 g
            have hua := fun (g : Ext w8) => (HV8.out.pu.below g.below).look_run sa
            have hub := fun (V : World) (hV : Below w8.heap.size w8 V) => (HV8.out.pu.below hV).look_run sa
            have hu0 := vU_look (l.take i) xa
            rw [← HE.out.2.1] at hu0
            have hu1 := usesN_bd (l.take i) xa
            rw [← hu0] at hu1
            obtain ⟨ua, hua0⟩ : ∃ a, (SMap.look U xa).getD 0 = a := ⟨_, rfl⟩
            rw [hua0] at hua hu1
            have hw2 : IntKind.i64.wrap (ua + 1) = ua + 1 := IntWalk.i64_in _ (by have := HTL.out; omega)
            have hi2 : In64 (ua + 1) := by have := HTL.out; unfold In64; omega
            have HU1 := Lib.hid (show putL U xa (ua + 1) = inc U xa by unfold inc; rw [hua0])
            clear hub hu0 hu1 hua0 c1 z0 z1
            refine wp_region_ext_tail 8 (by kernel_rfl) (by kernel_rfl) ?_
            simp only [List.take_succ_cons, List.take_zero, List.drop_succ_cons, List.drop_zero]
            repeat (quiet_step (fail))
            refine wpQuiet_nil ?_
            rintro w6 ⟨⟨w7, b6⟩, he⟩
            have he2 : w6 = w7 := he
            subst he2
            have HV6 := Lib.hid (HV8.out.below b6)
            refine wp_put rfl _ _ _ rfl rfl HV6.out.pu (by have := HL.out.2; omega) (p := xa) (n := ua + 1) rfl rfl sa hi2 ?_
            intro w9 hm9 hg9
            rw [HU1.out] at hm9
            have HV9 := Lib.hid (HV6.out.putU (by omega) hm9 hg9)
            have HXB9 := Lib.hid (grown_blk hg9 ((b6.block _ (block_lt HXB8.out)).trans HXB8.out) (by simpa using (show wr.heap.size ≠ w1.heap.size + 1 from by have := HV.out.pu.lt; omega)))
            have HB9 := Lib.hid ((HB8.out.trans (b6.mono HB8.out.size)).grown hg9 (by have := HB8.out.size; have := b6.size; omega) (fun k e => by cases e; omega))
            clear he q0 g1 hua HV6 hm9 hg9 b6 HV8 HXB8 HB8
            go_wp2_with fail
            -- and of the right one
            have z1 := cell_at HXB9.out 1
            simp only [List.getElem?_toArray, List.getElem?_cons_zero, List.getElem?_cons_succ] at z1
            have c1 := cell_at HV9.out.blk 1
            simp only [List.getElem?_toArray, List.getElem?_cons_zero, List.getElem?_cons_succ] at c1
            have q1 := fun g => Ext.cell (u := .string xb) z1 g
            have g1 := fun g => Ext.cell (u := .map (some (w1.heap.size + 1))) c1 g
            have hua := fun (g : Ext w9) => (HV9.out.pu.below g.below).look_run sb
            have hu0 := inc_look U xa xb
            have hu1 := usesN_bd (l.take i) xb
            rw [← vU_look (l.take i) xb, ← HE.out.2.1] at hu1
            obtain ⟨ua2, hua0⟩ : ∃ a, (SMap.look (inc U xa) xb).getD 0 = a := ⟨_, rfl⟩
            rw [hua0] at hua hu0
            have hu3 : 0 ≤ ua2 ∧ ua2 ≤ 3000 := by have := HTL.out; rw [hu0]; split <;> omega
            have hw2 : IntKind.i64.wrap (ua2 + 1) = ua2 + 1 := IntWalk.i64_in _ (by omega)
            have hi2 : In64 (ua2 + 1) := by unfold In64; omega
            have HU2 := Lib.hid (show putL (inc U xa) xb (ua2 + 1) = uStep U (xa, xb) by unfold uStep; conv => { rhs; unfold inc }; rw [← hua0]; rfl)
            have HUL := Lib.hid (show (inc U xa).length ≤ 2 * i + 1 by
              unfold inc putL
              have : (dropL U xa).length ≤ U.length := List.length_filter_le _ _
              have := HL.out.2
              rw [List.length_cons]; omega)
            clear hu0 hu1 hua0 hu3 c1 z1
            refine wp_region_ext_tail 8 (by kernel_rfl) (by kernel_rfl) ?_
            simp only [List.take_succ_cons, List.take_zero, List.drop_succ_cons, List.drop_zero]
            repeat (quiet_step (fail))
            refine wpQuiet_nil ?_
            rintro w6 ⟨⟨w7, b6⟩, he⟩
            have he2 : w6 = w7 := he
            subst he2
            have HV6 := Lib.hid (HV9.out.below b6)
            refine wp_put rfl _ _ _ rfl rfl HV6.out.pu (by have := HUL.out; omega) (p := xb) (n := ua2 + 1) rfl rfl sb hi2 ?_
            intro w10 hm9 hg9
            rw [HU2.out] at hm9
            have HV10 := Lib.hid (HV6.out.putU (by omega) hm9 hg9)
            have HB10 := Lib.hid ((HB9.out.trans (b6.mono HB9.out.size)).grown hg9 (by have := HB9.out.size; have := b6.size; omega) (fun k e => by cases e; omega))
            clear he q1 g1 hua HV6 hm9 hg9 b6 HV9 HXB9 HB9
            have c2 := cell_at HV10.out.blk 2
            have f2 := frozen_at HV10.out.blk 2
            simp only [List.getElem?_toArray, List.getElem?_cons_zero, List.getElem?_cons_succ] at c2
            obtain ⟨k2, hk2⟩ : ∃ k2, (if k < (tt.size : Int) then (tt.size : Int) else k) = k2 := ⟨_, rfl⟩
            have HK2 := Lib.hid (show max k (tt.size : Int) = k2 by rw [← hk2]; split <;> omega)
            go_wp2_with fail
            clear hk2
            go_roundw
            case rel =>
              refine ⟨i + 1, putL D tt (1 + mx), uStep U (xa, xb), k2, by omega, by go_num, Lib.hid ?_, Lib.hid ?_, Lib.hid ?_, Lib.hid ?_⟩
              · refine ⟨?_, HV10.out.pd.keep ?_, HV10.out.pu.keep ?_⟩
                · have h9 := set_at HV10.out.blk 2 (.int .i64 k2)
                  exact h9
                · exact Below.heap_setCell _ _ _ _ (fun e => HV10.out.ne.1 e.symm)
                · exact Below.heap_setCell _ _ _ _ (fun e => HV10.out.ne.2 e.symm)
              · have hE := HE.out
                have htk : l.take (i + 1) = l.take i ++ [(xa, xb)] := by rw [List.take_add_one, HX.out]; rfl
                rw [htk, vD_snoc, vU_snoc, vM_snoc, ← hE.1, ← hE.2.1, ← hE.2.2]
                refine ⟨?_, rfl, ?_⟩
                · unfold dStep; rw [HVD.out]; show putL D tt _ = putL D (xa ++ xb) _; rw [HTT.out]
                · unfold mStep; show k2 = max k (((xa ++ xb).size : Nat) : Int); rw [HTT.out, HK2.out]
              · have hL := HL.out
                have h3 : (dropL D tt).length ≤ D.length := List.length_filter_le _ _
                have h4 : (dropL (inc U xa) xb).length ≤ (inc U xa).length := List.length_filter_le _ _
                have h5 := HUL.out
                constructor
                · unfold putL; rw [List.length_cons]; omega
                · have h6 : (uStep U (xa, xb)).length = (dropL (inc U xa) xb).length + 1 := rfl
                  omega
              · exact HB10.out.setCell (by show w.heap.size ≤ w1.heap.size + 1 + 1; omega) _
            case measure => simp [intOf]; omega
          · obtain rfl : i = l.length := by omega
            have hnl : ¬ (l.length : Int) < (l.length : Int) := by omega
            go_wp2_with fail
            go_ret2
            refine ⟨.pointer (some ⟨w1.heap.size + 1 + 1, 0, none⟩), rfl, HB.out, w1.heap.size + 1 + 1, rfl, w1.heap.size, w1.heap.size + 1, ?_⟩
            have h1 := HE.out
            rw [List.take_length] at h1
            rw [← h1.1, ← h1.2.1, ← h1.2.2]
            exact HV.out
  · have hne : (ce != 0) = true := by simpa using h0
    go_wp2_with fail
    go_ret2
    exact ⟨_, rfl, b1, fun _ => rfl, fun h => absurd h h0⟩
end Go.Proofs.Ythinomhjhkhidaa.Voc
