/- gluepotref11: a word's symbols, walked. -/
import Derived.Test.YtaecngdabgnamaaSeqLaw
namespace Go.Proofs.Ytaecngdabgnamaa.RefSeq
open Go.RowKit Go.Maps Go.Proofs.YtaecngdabgnamaaW.PrintWords Go.Proofs.YtaecngdabgnamaaW.PrintLast Go.Proofs.YtaecngdabgnamaaW.PrintMore Base Foot ExtTail PMap SeqPure SeqM
set_option linter.unusedVariables false
set_option linter.unusedSimpArgs false
attribute [local go_sem ↓] Go.wp_at_zero Go.wp_at_succ

def bytesI (s : ByteArray) : List Int := s.data.toList.map fun c => (c.toNat : Int)
theorem bytesI_len (s : ByteArray) : (bytesI s).length = s.size := by unfold bytesI; rw [List.length_map, Array.length_toList]; rfl
theorem bytesI_step (s : ByteArray) (k : Nat) (h : k < s.size) : (bytesI s).take (k + 1) = (bytesI s).take k ++ [((s[k]'h).toNat : Int)] := by
  rw [List.take_succ_eq_append_getElem (by rw [bytesI_len]; exact h)]
  congr 2
  unfold bytesI
  rw [List.getElem_map]
  rfl
abbrev Row (B : Nat) (W : World) (v : Value) (l : List Int) : Prop := W.ownsRow B 3 1 v l.length (l.flatMap SeqM.encI)
set_option maxHeartbeats 1600000 in
set_option maxRecDepth 100000 in
theorem rsyms_any (s : ByteArray) (w : World) (hs : s.size ≤ 1000000) :
    Calls Try.prog 15 #[.string s] w fun e w' => ∃ v, e = .returned v ∧ Row w.heap.size w' v (bytesI s) ∧ Below w.heap.size w w' := by
  obtain ⟨iN, hiN, zN0, zN1, zN2⟩ := info_parts infoN
  go_enter Try.func15, Try.ntmps15
  go_wp2_with fail
  go_loopw [3, 4] (fun v3 v4 wr => ∃ (k : Nat) (ov : Value), k ≤ s.size ∧ ov = v3 ∧ v4 = .int .i64 (k : Int) ∧ wr.ownsRow w.heap.size 3 1 ov k (((bytesI s).take k).flatMap SeqM.encI) ∧ Below w.heap.size w wr) (fun _ i _ => s.size - (intOf i).toNat)
  case atStart => exact ⟨0, _, by omega, rfl, rfl, World.ownsRow_nil _ _ _ _, Below.refl _ _⟩
  case round =>
    obtain ⟨k, ov, hk, rfl, rfl, hrow, hb⟩ := hrel
    by_cases hlt : k < s.size
    · have hst := bytesI_step s k hlt
      have hcn := UInt8.toNat_lt (s[k]'hlt)
      have hwb := wrap_byte (s[k]'hlt)
      have HST := Lib.hid hst
      have hbs := hb.size
      clear hst
      go_wp2_with (at_builtin; refine wpList_append_own_at _ rfl _ _ 33 rfl w.heap.size 3 iN _ 1 8 Try.underlying33 hiN zN0 zN1 zN2 rfl (by decide) _ _ _ rfl (hrow.alloc _) ⟨wr.heap.size, 0, none⟩ 1 1 [.int .i64 ((s[k]'hlt).toNat : Int)] rfl rfl (news_alloc rfl) (by simp [Value.oneCell']) (by unfold maxLen; omega) (by omega) (by simp; omega) ?_; intro v' w2 hown2 hgrow2 _ hat2)
      have hb2 : Below w.heap.size w w2 := (hb.alloc hbs _).grown hgrow2 (by simp; omega) (fun k hk => (hrow.lt k hk).1)
      go_roundw
      case rel => exact ⟨k + 1, v', by omega, rfl, by go_num, by rw [HST.out]; simpa using hown2, hb2⟩
      case measure => simp [intOf]; omega
    · obtain rfl : k = s.size := by omega
      have htk : (bytesI s).take s.size = bytesI s := by rw [← bytesI_len]; exact List.take_length
      rw [htk, ← bytesI_len] at hrow
      have HR := Lib.hid hrow
      obtain ⟨A, c, rfl⟩ := own_slc hrow
      clear hrow htk
      go_wp2_with fail
      go_ret
      exact ⟨_, rfl, HR.out, hb⟩
end Go.Proofs.Ytaecngdabgnamaa.RefSeq
