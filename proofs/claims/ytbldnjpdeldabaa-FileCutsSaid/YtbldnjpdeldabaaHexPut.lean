/- Layer 1: bytes by digits. -/
import Derived.Test.YtbldnjpdeldabaaBld
import Derived.Lib.ConvBytes
namespace Go.Proofs.Ytbldnjpdeldabaa.HexPut
open Go.RowKit Base Foot Bld
set_option linter.unusedVariables false
set_option linter.unusedSimpArgs false
attribute [local go_sem ↓] Go.wp_at_zero Go.wp_at_succ

def digs : List UInt8 := [48, 49, 50, 51, 52, 53, 54, 55, 56, 57, 97, 98, 99, 100, 101, 102]
def dig (n : Nat) : UInt8 := digs.getD n 0
def hexL (l : List UInt8) : List UInt8 := l.flatMap fun c => [dig (c.toNat / 16), dig (c.toNat % 16)]
def hexB (s : ByteArray) : ByteArray := ⟨(hexL s.data.toList).toArray⟩
theorem hexL_len (l : List UInt8) : (hexL l).length = 2 * l.length := by
  induction l with
  | nil => rfl
  | cons a l ih => unfold hexL at *; rw [List.flatMap_cons, List.length_append, ih, List.length_cons]; simp; omega
theorem hexL_step {l : List UInt8} {k : Nat} {c : UInt8} (h : l[k]? = some c) : hexL (l.take (k + 1)) = hexL (l.take k) ++ [dig (c.toNat / 16)] ++ [dig (c.toNat % 16)] := by
  obtain ⟨hk, e⟩ := List.getElem?_eq_some_iff.1 h
  rw [List.take_succ_eq_append_getElem hk, e]
  unfold hexL
  rw [List.flatMap_append]
  simp
theorem dig_at (i : Nat) (h : i < 16) (h' : i < (⟨#[48, 49, 50, 51, 52, 53, 54, 55, 56, 57, 97, 98, 99, 100, 101, 102]⟩ : ByteArray).size) : (⟨#[48, 49, 50, 51, 52, 53, 54, 55, 56, 57, 97, 98, 99, 100, 101, 102]⟩ : ByteArray)[i]'h' = dig i := by
  have : ∀ j : Fin 16, (⟨#[48, 49, 50, 51, 52, 53, 54, 55, 56, 57, 97, 98, 99, 100, 101, 102]⟩ : ByteArray)[j.val]'j.isLt = dig j.val := by decide
  exact this ⟨i, h⟩
set_option maxHeartbeats 1600000 in
set_option maxRecDepth 100000 in
theorem put_any (s : ByteArray) (w : World) (h0 : 0 < s.size) (hs : s.size < 100000000) :
    Calls Try.prog 86 #[.string s] w fun e w' => e = .returned (.string (hexB s)) ∧ Below w.heap.size w w' := by
  have hcv := Lib.run_convert_string_bytes (P := Try.prog) (w.alloc (.cells #[.pointer none, .slice none 0 0] 140)) 9 77 5 s Try.underlying9 Try.underlying77 Try.underlying5
  go_enter Try.func86, Try.ntmps86
  go_wp2_with fail
  have hb0 : Below w.heap.size w (Lib.bytesWorld (w.alloc (.cells #[.pointer none, .slice none 0 0] 140)) 5 s) :=
    Lib.below_freeze ((((Below.refl w.heap.size w).alloc (Nat.le_refl _) _).drew).alloc (by simp) _) (by simp) _
  have hB0 := (new_bld w).keep (w' := Lib.bytesWorld (w.alloc (.cells #[.pointer none, .slice none 0 0] 140)) 5 s) (fun k hk => Lib.bytesWorld_at_old _ _ _ _ ((new_bld w).lt k hk).2)
  have hR0 := Lib.bytesWorld_at_new (w.alloc (.cells #[.pointer none, .slice none 0 0] 140)) 5 s
  have hcs : ∀ (k : Nat) (c : UInt8), s.data.toList[k]? = some c → (Lib.bytesCells (w.alloc (.cells #[.pointer none, .slice none 0 0] 140)) 5 s)[k]? = some (.int .u8 (c.toNat : Int)) := fun k c hc => by
    have hk := (List.getElem?_eq_some_iff.1 hc).1
    have hk2 : k < s.data.size := by simpa using hk
    unfold Lib.bytesCells
    rw [Array.getElem?_append_left (by simpa using hk2), Array.getElem?_map]
    rw [Array.getElem?_toList] at hc
    rw [hc]; rfl
  have hsz : (w.alloc (.cells #[.pointer none, .slice none 0 0] 140)).heap.size = w.heap.size + 1 := by simp
  rw [hsz] at hR0
  generalize Lib.bytesCells (w.alloc (.cells #[.pointer none, .slice none 0 0] 140)) 5 s = cs at *
  generalize Lib.bytesWorld (w.alloc (.cells #[.pointer none, .slice none 0 0] 140)) 5 s = w0 at *
  generalize grownCap (w.alloc (.cells #[.pointer none, .slice none 0 0] 140)) s.size 0 5 = cp at *
  clear hcv
  have HCS := Lib.hid hcs
  clear hcs
  have hll : s.data.toList.length = s.size := by rw [Array.length_toList]; rfl
  go_loopw [9] (fun v9 wr => ∃ (k : Nat) (v : Value), k ≤ s.size ∧ v9 = .int .i64 (k : Int) ∧ Bld w.heap.size wr w.heap.size v (Lib.byteCells (hexL (s.data.toList.take k))) ∧ wr.heap[w.heap.size + 1]? = some (.cells cs 5 (cs.size, cs.size + 1)) ∧ Hid (∀ q, BF w.heap.size v q → q ≠ w.heap.size + 1) ∧ Below w.heap.size w wr) (fun i _ => s.size - (intOf i).toNat)
  case atStart => exact ⟨0, _, by omega, rfl, hB0, hR0, (by
    rintro q (h | h)
    · omega
    · exact absurd h (by simp [Value.ownBlock]) : ∀ q, BF w.heap.size (.slice none 0 0) q → q ≠ w.heap.size + 1), hb0⟩
  case round =>
    clear hB0 hR0 hb0
    obtain ⟨k, v, hk, rfl, hB, hR, hN, hW⟩ := hrel
    by_cases hlt : k < s.size
    · have hc := List.getElem?_eq_getElem (l := s.data.toList) (i := k) (by omega)
      have hx := (cell_at hR k).trans (HCS.out k _ hc)
      have hstep := hexL_step hc
      generalize s.data.toList[k] = c at *
      have hcn := UInt8.toNat_lt c
      have HST := Lib.hid hstep
      have HC := Lib.hid hc
      clear hstep hc
      generalize c.toNat = n at *
      have hlen : (Lib.byteCells (hexL (s.data.toList.take k))).length < 500000000 := by rw [Lib.byteCells_length, hexL_len, List.length_take]; omega
      go_wp2_with fail
      rw [dig_at (n / 16) (by omega)]
      refine (byte_any hB ((dig (n / 16)).toNat : Int) (by omega)).mono ?_
      rintro e w3 ⟨rfl, v3, h3, u3⟩
      have hR3 := (u3.block _ (block_lt hR) (fun h => hN.out _ h rfl)).trans hR
      have hN3 := u3.apart (G := fun q => q = w.heap.size + 1) (by rintro q rfl; exact block_lt hR) (by rintro q rfl h; exact hN.out _ h rfl)
      have hW3 := hW.trans (u3.below hW.size (fun q hq => (hB.lt q hq).1))
      go_wp2_with fail
      rw [dig_at (n % 16) (by omega)]
      refine (byte_any h3 ((dig (n % 16)).toNat : Int) (by simp; omega)).mono ?_
      rintro e w4 ⟨rfl, v4, h4, u4⟩
      have hR4 := (u4.block _ (block_lt hR3) (fun h => hN3 _ rfl h)).trans hR3
      have hN4 := u4.apart (G := fun q => q = w.heap.size + 1) (by rintro q rfl; exact block_lt hR3) (by rintro q rfl h; exact hN3 _ rfl h)
      have hW4 := hW3.trans (u4.below hW3.size (fun q hq => (h3.lt q hq).1))
      have h4' : Bld w.heap.size w4 w.heap.size v4 (Lib.byteCells (hexL (s.data.toList.take (k + 1)))) := by
        rw [HST.out]
        simpa [Lib.byteCells] using h4
      clear hB hR hN hW h3 hR3 hN3 hW3 u3 u4 h4 HST HC
      go_wp2_with fail
      go_roundw
      case rel => exact ⟨k + 1, v4, by omega, by go_num, h4', hR4, (fun q hq e => hN4 q e hq : ∀ q, BF w.heap.size v4 q → q ≠ w.heap.size + 1), hW4⟩
      case measure => simp [intOf]; omega
    · obtain rfl : k = s.size := by omega
      have htk : s.data.toList.take s.size = s.data.toList := by rw [← hll]; exact List.take_length
      rw [htk] at hB
      have hne : hexL s.data.toList ≠ [] := fun e => by have := hexL_len s.data.toList; rw [e, hll] at this; simp at this; omega
      go_wp2_with fail
      refine (str_any hB hne (by rw [hexL_len, hll]; omega)).mono ?_
      rintro e w3 ⟨rfl, b3⟩
      go_wp2_with fail
      go_ret
      exact ⟨rfl, hW.trans b3⟩
end Go.Proofs.Ytbldnjpdeldabaa.HexPut
