/- Layer 21: the reference's Texts, walked. -/
import Derived.Test.YthinomhjhkhidaaVocRef2
namespace Go.Proofs.Ythinomhjhkhidaa.Voc
open Go.RowKit Go.Maps Go.ChangeShapes Go.WideShapes Go.Deep Go.Proofs.YthinomhjhkhidaaW.PrintWords Go.Proofs.YthinomhjhkhidaaW.PrintLast Go.Proofs.YthinomhjhkhidaaW.PrintMore Base Foot ExtTail SymPure Kinds FilePure FileJoin SMap Src FileLaw RefFile
set_option linter.unusedVariables false
set_option linter.unusedSimpArgs false
attribute [local go_sem ↓] Go.wp_at_zero Go.wp_at_succ

theorem encT_len (x : ByteArray) : (encT x).length = 1 := rfl
theorem src_take {w : World} {B cap : Nat} {A : Option Addr} {l : List ByteArray} (h : w.ownsRow B 9 1 (.slice A l.length cap) l.length (l.flatMap encT)) {i : Nat} (hi : i ≤ l.length) : Src w 1 A i ((l.take i).flatMap encT) := by
  refine ⟨by rw [flat_len encT 1 encT_len, List.length_take, Nat.min_eq_left hi], fun hn => ?_⟩
  obtain ⟨ad, e, hc⟩ := (Src.of_own h).2 (by omega)
  refine ⟨ad, e, fun j u hj => hc j u ?_⟩
  rw [← List.take_append_drop i l, List.flatMap_append, List.getElem?_append_left (List.getElem?_eq_some_iff.1 hj).1]
  exact hj
theorem src_drop {w : World} {B g cap : Nat} {l : List ByteArray} (h : w.ownsRow B 9 1 (.slice (some ⟨g, 0, none⟩) l.length cap) l.length (l.flatMap encT)) {i : Nat} (hi : i ≤ l.length) : Src w 1 (some ⟨g, i * 1, none⟩) (l.length - i) ((l.drop i).flatMap encT) := by
  refine ⟨by rw [flat_len encT 1 encT_len, List.length_drop], fun hn => ⟨_, rfl, fun j u hj => ?_⟩⟩
  obtain ⟨ad, e, hc⟩ := (Src.of_own h).2 (by omega)
  cases e
  have hlt : ((l.take i).flatMap encT).length = i * 1 := by rw [flat_len encT 1 encT_len, List.length_take, Nat.min_eq_left hi]
  have := hc (i * 1 + j) u (by
    rw [← List.take_append_drop i l, List.flatMap_append, List.getElem?_append_right (by omega), hlt, Nat.add_sub_cancel_left]
    exact hj)
  rw [addr_add] at this ⊢
  rwa [Nat.zero_add] at this
theorem sizeT (w : World) : (Go.sizeOf 9).run Try.prog w = .ok 1 w := by kernel_rfl
theorem b_oneR (w : World) (o : Obj) : Below w.heap.size w (w.alloc o) := (Below.refl _ _).alloc (Nat.le_refl _) o
def loA (A : Option Addr) (c m : Nat) : Option Addr := if c = m then A else A.map (·.add (m * 1))
theorem sl_hi {W : World} {B c m : Nat} {A : Option Addr} {L : List ByteArray} (h : W.ownsRow B 9 1 (.slice A L.length c) L.length (L.flatMap encT)) (hm : m ≤ L.length) :
    ∀ V, (Instr.slice 37 (.slice A L.length c) none (some (.int .i64 (m : Int))) none).run Try.prog V = .ok (.slice A m c) V := by
  have hf : (A = none ∧ c = 0 ∧ L.length = 0) ∨ ∃ g, A = some ⟨g, 0, none⟩ ∧ L.length ≤ c := by
    rcases h.2 with ⟨e, h0⟩ | ⟨g, cap, cur, e, _, _, h1, _⟩
    · obtain ⟨rfl, _, rfl⟩ : A = none ∧ L.length = 0 ∧ c = 0 := by simpa using e
      exact .inl ⟨rfl, rfl, h0⟩
    · cases e; exact .inr ⟨g, rfl, h1⟩
  intro V
  have hmc : m ≤ c := by rcases hf with ⟨_, h1, h2⟩ | ⟨g, _, h1⟩ <;> omega
  have hA : (if c = 0 then A else A.map (·.add (0 * 2))) = A := by
    split
    · rfl
    · rcases hf with ⟨rfl, _⟩ | ⟨g, rfl, _⟩
      · rfl
      · simp [addr_add]
  have hb : (Instr.sliceBounds true L.length c none (some (.int .i64 (m : Int))) none).run Try.prog V = .ok (0, m, c) V := by
    unfold Instr.sliceBounds
    simp [run_sliceBound, hmc, Result.andThen]
  simp only [Instr.slice, Sem.run_bind, run_underlying Try.underlying37, Result.andThen_ok, hb, sizeT, Sem.run_pure, Nat.sub_zero]
  rw [hA]
theorem sl_lo {W : World} {B c m : Nat} {A : Option Addr} {L : List ByteArray} (h : W.ownsRow B 9 1 (.slice A L.length c) L.length (L.flatMap encT)) (hm : m ≤ L.length) :
    (∀ V, (Instr.slice 37 (.slice A L.length c) (some (.int .i64 (m : Int))) none none).run Try.prog V = .ok (.slice (loA A c m) (L.length - m) (c - m)) V) ∧ Src W 1 (loA A c m) (L.length - m) ((L.drop m).flatMap encT) := by
  have hf : (A = none ∧ c = 0 ∧ L.length = 0) ∨ ∃ g, A = some ⟨g, 0, none⟩ ∧ L.length ≤ c := by
    rcases h.2 with ⟨e, h0⟩ | ⟨g, cap, cur, e, _, _, h1, _⟩
    · obtain ⟨rfl, _, rfl⟩ : A = none ∧ L.length = 0 ∧ c = 0 := by simpa using e
      exact .inl ⟨rfl, rfl, h0⟩
    · cases e; exact .inr ⟨g, rfl, h1⟩
  refine ⟨fun V => ?_, ?_⟩
  · have hb : (Instr.sliceBounds true L.length c (some (.int .i64 (m : Int))) none none).run Try.prog V = .ok (m, L.length, c) V := by
      unfold Instr.sliceBounds
      simp [run_sliceBound, hm, Result.andThen]
    simp only [Instr.slice, Sem.run_bind, run_underlying Try.underlying37, Result.andThen_ok, hb, sizeT, Sem.run_pure]
    rfl
  · unfold loA
    by_cases hc : c = m
    · have hl : L.length - m = 0 := by rcases hf with ⟨_, h1, h2⟩ | ⟨g, _, h1⟩ <;> omega
      rw [if_pos hc, hl, List.drop_eq_nil_of_le (by omega)]
      exact ⟨rfl, fun h => absurd h (by omega)⟩
    · rw [if_neg hc]
      rcases hf with ⟨rfl, h1, h2⟩ | ⟨g, rfl, h1⟩
      · omega
      · have := src_drop h hm
        simpa [addr_add] using this
theorem enc_oneP (l : List ByteArray) : ∀ u ∈ l.flatMap encT, u.oneCell' = true := by
  intro u hu
  obtain ⟨x, _, hx⟩ := List.mem_flatMap.1 hu
  simp [encT] at hx
  rw [hx]; rfl
theorem src_blk {w : World} {g : Nat} {t : ByteArray} (h : w.heap[g]? = some (.cells #[.string t] 9 (0, 0))) : Src w 1 (some ⟨g, 0, none⟩) 1 [.string t] :=
  ⟨rfl, fun _ => ⟨_, rfl, fun j u hj => by rw [addr_add, Nat.zero_add, cell_at h]; simpa using hj⟩⟩
theorem own_low {w : World} {B B' : Nat} {e : TypeId} {sz n : Nat} {v : Value} {xs : List Value} (h : w.ownsRow B e sz v n xs) (hB : B' ≤ B) : w.ownsRow B' e sz v n xs := by
  obtain ⟨h1, h2⟩ := h
  refine ⟨h1, ?_⟩
  rcases h2 with h2 | ⟨g, cap, cur, a, b, c⟩
  · exact .inl h2
  · exact .inr ⟨g, cap, cur, a, Nat.le_trans hB b, c⟩
theorem btake {k : Nat} (h : k < 256) : (byteTexts.take (k + 1)).flatMap encT = (byteTexts.take k).flatMap encT ++ [.string (byteS (k : Int))] := by
  rw [List.take_add_one, byteTexts_get h, List.flatMap_append]; rfl
set_option maxHeartbeats 12800000 in
set_option maxRecDepth 100000 in
theorem rtexts_any (A : Option Addr) (cp : Nat) (l : List Mg) (w : World) (hr : Kd.C kSS w A l.length l) (hg : ∀ x ∈ l, x.1.size ≤ 1000 ∧ x.2.size ≤ 1000) (hl : l.length ≤ 1000) :
    Calls Try.prog 22 #[.slice A l.length cp] w fun e w' => ∃ v, e = .returned v ∧
      w'.ownsRow w.heap.size 9 1 v (wantL l).length ((wantL l).flatMap encT) ∧ Below w.heap.size w w' := by
  obtain ⟨i0, hi, hz0, hz1, hz2⟩ := info_parts infoT
  have HR := Lib.hid hr
  have HG := Lib.hid hg
  have HNIL := Lib.hid (show w.ownsRow w.heap.size 9 1 (.slice none 0 0) 0 ((byteTexts.take 0).flatMap encT) from World.ownsRow_nil _ _ _ _)
  clear hr hg
  go_enter Try.func22, Try.ntmps22
  go_wp2_with fail
  go_loopw [3, 4] (fun v3 v4 wr => ∃ (i : Nat) (ov : Value), i ≤ 256 ∧ ov = v3 ∧ v4 = .int .i64 (i : Int) ∧ Hid (wr.ownsRow w.heap.size 9 1 ov i ((byteTexts.take i).flatMap encT)) ∧ Hid (Below w.heap.size w wr)) (fun _ i _ => 256 - (intOf i).toNat)
  case atStart => exact ⟨0, _, by omega, rfl, rfl, HNIL, Lib.hid (Below.refl _ _)⟩
  case round =>
    clear HNIL
    obtain ⟨i, ov, hi2, rfl, rfl, HO, HB⟩ := hrel
    have h0i : (0 : Int) ≤ (i : Int) := by omega
    by_cases hlt : i < 256
    · have hli : (i : Int) < 256 := by omega
      have hw8 : IntKind.u8.wrap (i : Int) = (i : Int) := by
        have : (i : Int) % 256 = (i : Int) := Int.emod_eq_of_lt h0i hli
        simp [IntKind.wrap, IntKind.signed, IntKind.bits, this]
      have hcv := conv_one wr i hlt
      obtain ⟨A3, cap3, rfl⟩ := slcT HO.out
      have hbs := HB.out.size
      go_wp2_with (at_builtin; refine wpList_append_own_at _ rfl _ _ 37 rfl w.heap.size 9 i0 _ 1 16 Try.underlying37 hi hz0 hz1 hz2 rfl (by decide) _ _ _ rfl ((HO.out.alloc _).alloc _) ⟨wr.heap.size + 1, 0, none⟩ 1 1 [.string (byteS (i : Int))] rfl rfl (news_alloc (by simp)) (by simp [Value.oneCell']) (by unfold maxLen; omega) (by omega) (by simp; omega) ?_; intro v' w5 hown5 hgrow5 _ hat5)
      go_roundw
      case rel =>
        replace hgrow5 : ((wr.alloc (.cells #[.int .u8 (i : Int)] 5)).alloc (.cells #[.string (byteS (i : Int))] 9)).grownBy w5 (Value.slice A3 i cap3).ownBlock := hgrow5
        have hba := (HB.out.alloc HB.out.size (.cells #[.int .u8 (i : Int)] 5)).alloc (by simp; omega) (.cells #[.string (byteS (i : Int))] 9)
        refine ⟨i + 1, v', by omega, rfl, by go_num, Lib.hid ?_, Lib.hid (hba.grown hgrow5 hba.size (fun q e => (HO.out.lt q e).1))⟩
        rw [btake hlt]; exact hown5
      case measure => simp [intOf]; omega
    · have e256 : i = 256 := by omega
      have hnl : ¬ (i : Int) < 256 := by omega
      have HO0 := Lib.hid (show wr.ownsRow w.heap.size 9 1 ov (wantL (l.take 0)).length ((wantL (l.take 0)).flatMap encT) by
        have h1 := HO.out
        rw [e256] at h1
        have h2 : byteTexts.take 256 = byteTexts := List.take_of_length_le (by simp [byteTexts])
        rw [h2] at h1
        exact h1)
      have HB0 := HB
      clear HO HB e256 hlt hi2
      go_wp2_with fail
      go_loopw [3, 5] (fun v3 v5 wr => ∃ (j : Nat) (ov : Value), j ≤ l.length ∧ ov = v3 ∧ v5 = .int .i64 (j : Int) ∧ Hid (wr.ownsRow w.heap.size 9 1 ov (wantL (l.take j)).length ((wantL (l.take j)).flatMap encT)) ∧ Hid (Below w.heap.size w wr)) (fun _ i _ => l.length - (intOf i).toNat)
      case atStart => exact ⟨0, _, by omega, rfl, rfl, HO0, HB0⟩
      case round =>
        clear HO0 HB0
        obtain ⟨j, ov, hj, rfl, rfl, HO, HB⟩ := hrel
        have h0j : (0 : Int) ≤ (j : Int) := by omega
        by_cases hlt : j < l.length
        · have hlj : (j : Int) < (l.length : Int) := by omega
          have hx := List.getElem?_eq_getElem hlt
          have hgx := HG.out _ (List.getElem_mem hlt)
          have htk : l.take (j + 1) = l.take j ++ [l[j]] := List.take_succ_eq_append_getElem hlt
          obtain ⟨ad, e1, hx0, hx1⟩ := at_SS (Kd.C_below HR.out HB.out) hx
          cases e1
          generalize l[j] = x at *
          obtain ⟨xa, xb⟩ := x
          simp only at hx0 hx1 hgx
          have HTK := Lib.hid htk
          have g1 : (9223372036854775807 < xa.size + xb.size) = False := eq_false (by omega)
          have hwl := want_len (l.take j)
          rw [List.length_take_of_le (by omega)] at hwl
          have HWN := Lib.hid (want_snoc (l.take j) (xa, xb))
          have hbdW : ∀ s ∈ wantL (l.take j), s.size < 100000000 := fun s hs => by
            rcases List.mem_append.1 ((want_all (l.take j)).2.mem_iff.1 hs) with h | h
            · obtain ⟨q, _, e⟩ := List.mem_map.1 h
              rw [← e, byteS_size]; omega
            · obtain ⟨y, hy, e⟩ := List.mem_map.1 h
              have := HG.out y (List.mem_of_mem_take hy)
              rw [← e, tx_size]; omega
          have HBW := Lib.hid hbdW
          obtain ⟨L, hL⟩ : ∃ L, wantL (l.take j) = L := ⟨_, rfl⟩
          rw [hL] at HO hwl HWN HBW
          have hLl : L.length ≤ 2000 := by omega
          clear hx htk hL hbdW hwl
          obtain ⟨Ao, co, rfl⟩ := slcT HO.out
          go_wp2_with fail
          go_quiet (fail)
          have hbq := bdrew wr.heap.size wr nq
          have HB2 := Lib.hid (HB.out.trans (hbq.mono HB.out.size))
          have HO2 := Lib.hid (own_keep (w1 := wr.drewN nq) HO.out (fun q hq => hbq.block q (HO.out.lt q hq).2))
          clear HB HO hbq hx0 hx1
          generalize wr.drewN nq = wo at *
          obtain ⟨tt, htt⟩ : ∃ tt, xa ++ xb = tt := ⟨_, rfl⟩
          have HTT := Lib.hid htt
          have hts : tt.size < 100000000 := by rw [← htt, ByteArray.size_append]; omega
          simp only [htt]
          clear htt g1
          go_wp2_with fail
          go_loopw [7] (fun v7 wq => ∃ k : Nat, k ≤ L.length ∧ v7 = .int .i64 (k : Int) ∧ Hid (posR L tt L.length = posR L tt k) ∧ Hid (Below wo.heap.size wo wq)) (fun i _ => (intOf i).toNat)
          case atStart => exact ⟨L.length, Nat.le_refl _, rfl, Lib.hid rfl, Lib.hid (Below.refl _ _)⟩
          case round =>
            obtain ⟨k, hk, rfl, HP, HQ⟩ := hrel
            have h0k : (0 : Int) ≤ (k : Int) := by omega
            by_cases hk0 : k = 0
            · have hnk : ¬ 0 < k := by omega
              have HPK := Lib.hid (show posR L tt L.length = k by rw [HP.out, hk0]; rfl)
              have HBC := Lib.hid (HB2.out.trans (HQ.out.mono HB2.out.size))
              have HOC := Lib.hid (own_keep (w1 := wr) HO2.out (fun q hq => HQ.out.block q (HO2.out.lt q hq).2))
              clear hk0
              have hb6s := HBC.out.size
              have hs1 := sl_hi HOC.out hk
              obtain ⟨hs2, src2⟩ := sl_lo HOC.out hk
              have src1 := src_take HOC.out hk
              generalize loA Ao co k = Al at *
              have SRC1 := Lib.hid src1
              have SRC2 := Lib.hid src2
              clear src1 src2
              have o1 := own_empty wr wr.heap.size 9 1 (Nat.le_refl _)
              have o3 : ((wr.alloc (.cells #[.string tt] 9)).alloc (.cells #[] 9)).ownsRow wr.heap.size 9 1 (.slice (some ⟨wr.heap.size + 1, 0, none⟩) 0 0) 0 [] := by
                have := own_empty (wr.alloc (.cells #[.string tt] 9)) wr.heap.size 9 1 (by simp)
                simpa using this
              have s1a := fun O => SRC1.out.below (((Below.refl wr.heap.size wr).alloc (Nat.le_refl _) O).drew)
              have s1b := fun O O' => SRC1.out.below ((((Below.refl wr.heap.size wr).alloc (Nat.le_refl _) O).alloc (by simp) O').drew)
              have nb2 : ∀ O, ((wr.alloc O).alloc (.cells #[.string tt] 9)).drew.heap[wr.heap.size + 1]? = some (.cells #[.string tt] 9 (0, 0)) := fun O => by
                have := heap_alloc_new (wr.alloc O) (.cells #[.string tt] 9)
                rw [World.size_alloc] at this
                exact this
              have nb3 : ∀ O, ((wr.alloc (.cells #[.string tt] 9)).alloc O).drew.heap[wr.heap.size]? = some (.cells #[.string tt] 9 (0, 0)) := fun O => alloc_blk (heap_alloc_new wr _)
              go_wp2_with fail
              go_region_held3 (fun _ => True) (exact trivial)
                (first
                  | (refine step_append_src _ (by rfl) (.tmp 58) (.tmp 61) 37 (by rfl) wr.heap.size 9 i0 _ 1 16 Try.underlying37 hi hz0 hz1 hz2 rfl (by omega) v2 (0 + k + 1) _ (by rfl) (by exact hown4) Al (L.length - k) (co - k) ((L.drop k).flatMap encT) (by rfl) (by exact src4) (enc_oneP _) (by unfold maxLen; omega) (by omega) (by omega) ?_; intro v3 w5 hown5 hgrow5 hat5; have hb5 : Below wr.heap.size wr w5 := hb4.grown hgrow5 hb4s (fun k hk => (hown4.lt k hk).1); have H5 := Lib.hid hb5; have HO5 := Lib.hid hown5)
                  | (refine step_append_src _ (by rfl) (.tmp 55) (.tmp 57) 37 (by rfl) wr.heap.size 9 i0 _ 1 16 Try.underlying37 hi hz0 hz1 hz2 rfl (by omega) v1 (0 + k) _ (by rfl) (by exact hown3.alloc _) (some ⟨w3.heap.size, 0, none⟩) 1 1 [.string tt] (by rfl) (by exact src_blk (heap_alloc_new w3 _)) (by simp [Value.oneCell']) (by unfold maxLen; omega) (by omega) (by first | omega | (simp; omega)) ?_; intro v2 w4 hown4 hgrow4 hat4; have hb4 : Below wr.heap.size wr w4 := (hb3.alloc hb3s _).grown hgrow4 (by first | omega | (simp; omega)) (fun k hk => (hown3.lt k hk).1); have hb4s := hb4.size; have src4 := SRC2.out.below hb4)
                  | (refine step_append_src _ (by rfl) (.tmp 55) (.tmp 57) 37 (by rfl) wr.heap.size 9 i0 _ 1 16 Try.underlying37 hi hz0 hz1 hz2 rfl (by omega) v1 (0 + k) _ (by rfl) (by exact hown3) (some ⟨wr.heap.size + 1, 0, none⟩) 1 1 [.string tt] (by rfl) (by exact src_blk BK2.out) (by simp [Value.oneCell']) (by unfold maxLen; omega) (by omega) (by first | omega | (simp; omega)) ?_; intro v2 w4 hown4 hgrow4 hat4; have hb4 : Below wr.heap.size wr w4 := hb3.grown hgrow4 (by first | omega | (simp; omega)) (fun k hk => (hown3.lt k hk).1); have hb4s := hb4.size; have src4 := SRC2.out.below hb4)
                  | (refine step_append_src _ (by rfl) (.tmp 55) (.tmp 57) 37 (by rfl) wr.heap.size 9 i0 _ 1 16 Try.underlying37 hi hz0 hz1 hz2 rfl (by omega) v1 (0 + k) _ (by rfl) (by exact hown3) (some ⟨wr.heap.size, 0, none⟩) 1 1 [.string tt] (by rfl) (by exact src_blk BK3.out) (by simp [Value.oneCell']) (by unfold maxLen; omega) (by omega) (by first | omega | (simp; omega)) ?_; intro v2 w4 hown4 hgrow4 hat4; have hb4 : Below wr.heap.size wr w4 := hb3.grown hgrow4 (by first | omega | (simp; omega)) (fun k hk => (hown3.lt k hk).1); have hb4s := hb4.size; have src4 := SRC2.out.below hb4)
                  | (refine step_append_src _ (by rfl) (.tmp 51) (.tmp 54) 37 (by rfl) wr.heap.size 9 i0 _ 1 16 Try.underlying37 hi hz0 hz1 hz2 rfl (by omega) (.slice (some ⟨wr.heap.size, 0, none⟩) 0 0) 0 [] (by rfl) (by exact o1.drew) Ao k co ((L.take k).flatMap encT) (by rfl) (by exact s1a _) (enc_oneP _) (by unfold maxLen; omega) (by omega) (by first | (simp; done) | (simp; omega)) ?_; intro v1 w3 hown3 hgrow3 hat3; have hb3 : Below wr.heap.size wr w3 := (((Below.refl _ _).alloc (Nat.le_refl _) _).drew).grown hgrow3 (by first | (simp; done) | (simp; omega)) (fun k hk => by simp [Value.ownBlock] at hk; omega); have hb3s := hb3.size; skip)
                  | (refine step_append_src _ (by rfl) (.tmp 51) (.tmp 54) 37 (by rfl) wr.heap.size 9 i0 _ 1 16 Try.underlying37 hi hz0 hz1 hz2 rfl (by omega) (.slice (some ⟨wr.heap.size, 0, none⟩) 0 0) 0 [] (by rfl) (by exact (o1.alloc _).drew) Ao k co ((L.take k).flatMap encT) (by rfl) (by exact s1b _ _) (enc_oneP _) (by unfold maxLen; omega) (by omega) (by first | (simp; done) | (simp; omega)) ?_; intro v1 w3 hown3 hgrow3 hat3; have hb3 : Below wr.heap.size wr w3 := ((((Below.refl _ _).alloc (Nat.le_refl _) _).alloc (by simp) _).drew).grown hgrow3 (by first | (simp; done) | (simp; omega)) (fun k hk => by simp [Value.ownBlock] at hk; omega); have hb3s := hb3.size; have BK2 := Lib.hid (show w3.heap[wr.heap.size + 1]? = some (.cells #[.string tt] 9 (0, 0)) from (hgrow3.block (wr.heap.size + 1) (by first | (simp; done) | (simp; omega)) (by simp [Value.ownBlock])).trans (nb2 _)))
                  | (refine step_append_src _ (by rfl) (.tmp 51) (.tmp 54) 37 (by rfl) wr.heap.size 9 i0 _ 1 16 Try.underlying37 hi hz0 hz1 hz2 rfl (by omega) (.slice (some ⟨wr.heap.size + 1, 0, none⟩) 0 0) 0 [] (by rfl) (by exact o3.drew) Ao k co ((L.take k).flatMap encT) (by rfl) (by exact s1b _ _) (enc_oneP _) (by unfold maxLen; omega) (by omega) (by first | (simp; done) | (simp; omega)) ?_; intro v1 w3 hown3 hgrow3 hat3; have hb3 : Below wr.heap.size wr w3 := ((((Below.refl _ _).alloc (Nat.le_refl _) _).alloc (by simp) _).drew).grown hgrow3 (by first | (simp; done) | (simp; omega)) (fun k hk => by simp [Value.ownBlock] at hk; omega); have hb3s := hb3.size; have BK3 := Lib.hid (show w3.heap[wr.heap.size]? = some (.cells #[.string tt] 9 (0, 0)) from (hgrow3.block wr.heap.size (by first | (simp; done) | (simp; omega)) (by simp [Value.ownBlock])).trans (nb3 _))))
              all_goals
                have hrow6 := own_low HO5.out hb6s
                have hb6 := HBC.out.trans (H5.out.mono HBC.out.size)
                have el : (L.take k ++ tt :: L.drop k).length = 0 + k + 1 + (L.length - k) := by simp; omega
                have HR6 : Hid (w5.ownsRow w.heap.size 9 1 v3 (wantL (l.take (j + 1))).length ((wantL (l.take (j + 1))).flatMap encT)) := by
                  have e9 : wantL (l.take (j + 1)) = L.take k ++ tt :: L.drop k := by
                    rw [HTK.out, HWN.out]
                    show insR L (xa ++ xb) = _
                    rw [HTT.out]
                    unfold insR
                    rw [HPK.out]
                  rw [e9, el]
                  have e2 : (L.take k ++ tt :: L.drop k).flatMap encT = [] ++ (L.take k).flatMap encT ++ [.string tt] ++ (L.drop k).flatMap encT := by simp [encT]
                  rw [e2]
                  exact hrow6
                go_wp2_with fail
                go_roundw
                case rel => exact ⟨j + 1, v3, by omega, rfl, by go_num, HR6, Lib.hid hb6⟩
                case measure => simp [intOf]; omega
            · obtain ⟨q, hq⟩ : ∃ q, k = q + 1 := ⟨k - 1, by omega⟩
              have hpk : 0 < k := by omega
              have hql : q < L.length := by omega
              have HQK := Lib.hid hq
              have hw1 : IntKind.i64.wrap ((k : Int) - 1) = (q : Int) := by rw [IntWalk.i64_in _ (by omega)]; omega
              have h0q : (0 : Int) ≤ (q : Int) := by omega
              have h1q : (q : Int) < (L.length : Int) := by omega
              have hx := List.getElem?_eq_getElem hql
              have hsz := HBW.out _ (List.getElem_mem hql)
              have hgd : L.getD q tt = L[q] := getD_at hql
              have HOW := Lib.hid (own_keep (w1 := wr) HO2.out (fun q hq => HQ.out.block q (HO2.out.lt q hq).2))
              generalize L[q] = x at hx hsz hgd
              obtain ⟨ad2, cap2, e2, hcap, y0, _⟩ := own_at (f := encT) (sz := 1) (fun _ => rfl) HOW.out (by omega) hx
              cases e2
              have y1 := y0 _ rfl
              rw [Nat.mul_one] at y1
              have hless := RLess.less_any tt x wr hts hsz
              clear hx y0 hsz hq
              cases hbl : Op.bytesLess tt.toList x.toList with
              | true =>
                rw [hbl] at hless
                have HPK := Lib.hid (show posR L tt L.length = posR L tt q by
                  rw [HP.out, HQK.out, posR, hgd, if_pos hbl])
                clear hbl hgd
                go_wp2_with fail
                refine hless.mono ?_
                rintro e w5 ⟨rfl, b5⟩
                have HQ5 := Lib.hid (HQ.out.trans (b5.mono HQ.out.size))
                clear b5 hless
                go_wp2_with fail
                go_roundw
                case rel => exact ⟨q, by omega, by go_num, HPK, HQ5⟩
                case measure => simp [intOf]; have := HQK.out; omega
              | false =>
                rw [hbl] at hless
                have HPK := Lib.hid (show posR L tt L.length = k by
                  rw [HP.out, HQK.out, posR, hgd, if_neg (by rw [show FreqPure.bl tt x = false from hbl]; decide)])
                clear hbl hgd
                go_wp2_with fail
                refine hless.mono ?_
                rintro e wz ⟨rfl, b5⟩
                have HQ5 := Lib.hid (HQ.out.trans (b5.mono HQ.out.size))
                clear b5 hless
                have HBC := Lib.hid (HB2.out.trans (HQ5.out.mono HB2.out.size))
                have HOC := Lib.hid (own_keep (w1 := wz) HO2.out (fun q hq => HQ5.out.block q (HO2.out.lt q hq).2))
                have hb6s := HBC.out.size
                have hs1 := sl_hi HOC.out hk
                obtain ⟨hs2, src2⟩ := sl_lo HOC.out hk
                have src1 := src_take HOC.out hk
                generalize loA (some ad2) co k = Al at *
                have SRC1 := Lib.hid src1
                have SRC2 := Lib.hid src2
                clear src1 src2
                have o1 := own_empty wz wz.heap.size 9 1 (Nat.le_refl _)
                have o3 : ((wz.alloc (.cells #[.string tt] 9)).alloc (.cells #[] 9)).ownsRow wz.heap.size 9 1 (.slice (some ⟨wz.heap.size + 1, 0, none⟩) 0 0) 0 [] := by
                  have := own_empty (wz.alloc (.cells #[.string tt] 9)) wz.heap.size 9 1 (by simp)
                  simpa using this
                have s1a := fun O => SRC1.out.below (((Below.refl wz.heap.size wz).alloc (Nat.le_refl _) O).drew)
                have s1b := fun O O' => SRC1.out.below ((((Below.refl wz.heap.size wz).alloc (Nat.le_refl _) O).alloc (by simp) O').drew)
                have nb2 : ∀ O, ((wz.alloc O).alloc (.cells #[.string tt] 9)).drew.heap[wz.heap.size + 1]? = some (.cells #[.string tt] 9 (0, 0)) := fun O => by
                  have := heap_alloc_new (wz.alloc O) (.cells #[.string tt] 9)
                  rw [World.size_alloc] at this
                  exact this
                have nb3 : ∀ O, ((wz.alloc (.cells #[.string tt] 9)).alloc O).drew.heap[wz.heap.size]? = some (.cells #[.string tt] 9 (0, 0)) := fun O => alloc_blk (heap_alloc_new wz _)
                go_wp2_with fail
                go_region_held3 (fun _ => True) (exact trivial)
                  (first
                    | (refine step_append_src _ (by rfl) (.tmp 58) (.tmp 61) 37 (by rfl) wz.heap.size 9 i0 _ 1 16 Try.underlying37 hi hz0 hz1 hz2 rfl (by omega) v2 (0 + k + 1) _ (by rfl) (by exact hown4) Al (L.length - k) (co - k) ((L.drop k).flatMap encT) (by rfl) (by exact src4) (enc_oneP _) (by unfold maxLen; omega) (by omega) (by omega) ?_; intro v3 w5 hown5 hgrow5 hat5; have hb5 : Below wz.heap.size wz w5 := hb4.grown hgrow5 hb4s (fun k hk => (hown4.lt k hk).1); have H5 := Lib.hid hb5; have HO5 := Lib.hid hown5)
                    | (refine step_append_src _ (by rfl) (.tmp 55) (.tmp 57) 37 (by rfl) wz.heap.size 9 i0 _ 1 16 Try.underlying37 hi hz0 hz1 hz2 rfl (by omega) v1 (0 + k) _ (by rfl) (by exact hown3.alloc _) (some ⟨w3.heap.size, 0, none⟩) 1 1 [.string tt] (by rfl) (by exact src_blk (heap_alloc_new w3 _)) (by simp [Value.oneCell']) (by unfold maxLen; omega) (by omega) (by first | omega | (simp; omega)) ?_; intro v2 w4 hown4 hgrow4 hat4; have hb4 : Below wz.heap.size wz w4 := (hb3.alloc hb3s _).grown hgrow4 (by first | omega | (simp; omega)) (fun k hk => (hown3.lt k hk).1); have hb4s := hb4.size; have src4 := SRC2.out.below hb4)
                    | (refine step_append_src _ (by rfl) (.tmp 55) (.tmp 57) 37 (by rfl) wz.heap.size 9 i0 _ 1 16 Try.underlying37 hi hz0 hz1 hz2 rfl (by omega) v1 (0 + k) _ (by rfl) (by exact hown3) (some ⟨wz.heap.size + 1, 0, none⟩) 1 1 [.string tt] (by rfl) (by exact src_blk BK2.out) (by simp [Value.oneCell']) (by unfold maxLen; omega) (by omega) (by first | omega | (simp; omega)) ?_; intro v2 w4 hown4 hgrow4 hat4; have hb4 : Below wz.heap.size wz w4 := hb3.grown hgrow4 (by first | omega | (simp; omega)) (fun k hk => (hown3.lt k hk).1); have hb4s := hb4.size; have src4 := SRC2.out.below hb4)
                    | (refine step_append_src _ (by rfl) (.tmp 55) (.tmp 57) 37 (by rfl) wz.heap.size 9 i0 _ 1 16 Try.underlying37 hi hz0 hz1 hz2 rfl (by omega) v1 (0 + k) _ (by rfl) (by exact hown3) (some ⟨wz.heap.size, 0, none⟩) 1 1 [.string tt] (by rfl) (by exact src_blk BK3.out) (by simp [Value.oneCell']) (by unfold maxLen; omega) (by omega) (by first | omega | (simp; omega)) ?_; intro v2 w4 hown4 hgrow4 hat4; have hb4 : Below wz.heap.size wz w4 := hb3.grown hgrow4 (by first | omega | (simp; omega)) (fun k hk => (hown3.lt k hk).1); have hb4s := hb4.size; have src4 := SRC2.out.below hb4)
                    | (refine step_append_src _ (by rfl) (.tmp 51) (.tmp 54) 37 (by rfl) wz.heap.size 9 i0 _ 1 16 Try.underlying37 hi hz0 hz1 hz2 rfl (by omega) (.slice (some ⟨wz.heap.size, 0, none⟩) 0 0) 0 [] (by rfl) (by exact o1.drew) (some ad2) k co ((L.take k).flatMap encT) (by rfl) (by exact s1a _) (enc_oneP _) (by unfold maxLen; omega) (by omega) (by first | (simp; done) | (simp; omega)) ?_; intro v1 w3 hown3 hgrow3 hat3; have hb3 : Below wz.heap.size wz w3 := (((Below.refl _ _).alloc (Nat.le_refl _) _).drew).grown hgrow3 (by first | (simp; done) | (simp; omega)) (fun k hk => by simp [Value.ownBlock] at hk; omega); have hb3s := hb3.size; skip)
                    | (refine step_append_src _ (by rfl) (.tmp 51) (.tmp 54) 37 (by rfl) wz.heap.size 9 i0 _ 1 16 Try.underlying37 hi hz0 hz1 hz2 rfl (by omega) (.slice (some ⟨wz.heap.size, 0, none⟩) 0 0) 0 [] (by rfl) (by exact (o1.alloc _).drew) (some ad2) k co ((L.take k).flatMap encT) (by rfl) (by exact s1b _ _) (enc_oneP _) (by unfold maxLen; omega) (by omega) (by first | (simp; done) | (simp; omega)) ?_; intro v1 w3 hown3 hgrow3 hat3; have hb3 : Below wz.heap.size wz w3 := ((((Below.refl _ _).alloc (Nat.le_refl _) _).alloc (by simp) _).drew).grown hgrow3 (by first | (simp; done) | (simp; omega)) (fun k hk => by simp [Value.ownBlock] at hk; omega); have hb3s := hb3.size; have BK2 := Lib.hid (show w3.heap[wz.heap.size + 1]? = some (.cells #[.string tt] 9 (0, 0)) from (hgrow3.block (wz.heap.size + 1) (by first | (simp; done) | (simp; omega)) (by simp [Value.ownBlock])).trans (nb2 _)))
                    | (refine step_append_src _ (by rfl) (.tmp 51) (.tmp 54) 37 (by rfl) wz.heap.size 9 i0 _ 1 16 Try.underlying37 hi hz0 hz1 hz2 rfl (by omega) (.slice (some ⟨wz.heap.size + 1, 0, none⟩) 0 0) 0 [] (by rfl) (by exact o3.drew) (some ad2) k co ((L.take k).flatMap encT) (by rfl) (by exact s1b _ _) (enc_oneP _) (by unfold maxLen; omega) (by omega) (by first | (simp; done) | (simp; omega)) ?_; intro v1 w3 hown3 hgrow3 hat3; have hb3 : Below wz.heap.size wz w3 := ((((Below.refl _ _).alloc (Nat.le_refl _) _).alloc (by simp) _).drew).grown hgrow3 (by first | (simp; done) | (simp; omega)) (fun k hk => by simp [Value.ownBlock] at hk; omega); have hb3s := hb3.size; have BK3 := Lib.hid (show w3.heap[wz.heap.size]? = some (.cells #[.string tt] 9 (0, 0)) from (hgrow3.block wz.heap.size (by first | (simp; done) | (simp; omega)) (by simp [Value.ownBlock])).trans (nb3 _))))
                all_goals
                  have hrow6 := own_low HO5.out hb6s
                  have hb6 := HBC.out.trans (H5.out.mono HBC.out.size)
                  have el : (L.take k ++ tt :: L.drop k).length = 0 + k + 1 + (L.length - k) := by simp; omega
                  have HR6 : Hid (w5.ownsRow w.heap.size 9 1 v3 (wantL (l.take (j + 1))).length ((wantL (l.take (j + 1))).flatMap encT)) := by
                    have e9 : wantL (l.take (j + 1)) = L.take k ++ tt :: L.drop k := by
                      rw [HTK.out, HWN.out]
                      show insR L (xa ++ xb) = _
                      rw [HTT.out]
                      unfold insR
                      rw [HPK.out]
                    rw [e9, el]
                    have e2 : (L.take k ++ tt :: L.drop k).flatMap encT = [] ++ (L.take k).flatMap encT ++ [.string tt] ++ (L.drop k).flatMap encT := by simp [encT]
                    rw [e2]
                    exact hrow6
                  go_wp2_with fail
                  go_roundw
                  case rel => exact ⟨j + 1, v3, by omega, rfl, by go_num, HR6, Lib.hid hb6⟩
                  case measure => simp [intOf]; omega
        · obtain rfl : j = l.length := by omega
          have hnl2 : ¬ (l.length : Int) < (l.length : Int) := by omega
          have hO := HO.out
          rw [List.take_length] at hO
          have HO3 := Lib.hid hO
          clear hO
          go_wp2_with fail
          go_ret
          exact ⟨_, rfl, HO3.out, HB.out⟩
end Go.Proofs.Ythinomhjhkhidaa.Voc
