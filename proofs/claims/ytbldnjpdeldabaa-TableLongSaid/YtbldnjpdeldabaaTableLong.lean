/- TableLong: a word of the greatest length is right, one byte more isn't, wherever it stands. No condition. -/
import Derived.Test.YtbldnjpdeldabaaTableWalk
import Derived.Test.YtbldnjpdeldabaaRows2
import Derived.Laws.MakeOwn
import Derived.Laws.BytesArg
namespace Go.Proofs.Ytbldnjpdeldabaa.TableLong
open Go.RowKit Go.Proofs.YtbldnjpdeldabaaW.PrintWords Go.Proofs.YtbldnjpdeldabaaW.PrintLast Go.Proofs.YtbldnjpdeldabaaW.PrintMore PTableTells TableA TableMath TableWalk Base Rows2
set_option linter.unusedVariables false

theorem info5 : (Try.prog.info? 5).map (fun i => (i.zero, i.size, i.bytes)) = some (some (.int .u8 0), 1, 1) := by kernel_rfl
def num (k i : Nat) : Int := if i < k then 109 else 0
def fillB (n k : Nat) : Array Value := ((List.range n).map fun i => Value.int .u8 (num k i)).toArray
theorem fillB_get (n k i : Nat) (h : i < n) : (fillB n k)[i]? = some (.int .u8 (num k i)) := by simp [fillB, h]
theorem fillB_step (n k : Nat) : (fillB n k).setIfInBounds k (.int .u8 109) = fillB n (k + 1) := by
  apply Array.ext
  · simp [fillB]
  · intro i h1 h2
    simp [fillB, num] at *
    by_cases hik : k = i
    · subst hik; simp
    · simp [hik]
      by_cases h : i < k
      · simp [h, show i < k + 1 by omega]
      · simp [h, show ¬ i < k + 1 by omega]
theorem made_fill (n : Nat) : madeCells #[Value.int .u8 0] n = fillB n 0 := by
  apply Array.ext
  · simp [madeCells, fillB]
  · intro i h1 h2
    simp [madeCells, fillB, num, Nat.mod_one]
def enc79 (x : S79) : List Value := [.string x.f0, .int .i64 x.f1]

def Filled (n k B : Nat) (wr : World) : Prop := wr.heap[B]? = some (.cells (fillB n k) 5 (0, 0))
theorem Filled.set {n k B : Nat} {wr : World} (h : Filled n k B wr) : Filled n (k + 1) B (wr.setCell ⟨B, k, none⟩ (.int .u8 109)) := by
  unfold Filled at *
  rw [set_at h, fillB_step]

theorem info79 : (Try.prog.info? 79).map (fun i => (i.zero, i.size, i.bytes)) = some (some (.agg #[(.string ⟨#[]⟩), (.int .i64 0)]), 2, 24) := by kernel_rfl

set_option maxHeartbeats 400000 in
set_option maxRecDepth 100000 in
theorem law_a (more : Int) (ahead : Bool) (w : World) (h0 : 0 ≤ more) (h1 : more ≤ 255) :
    Calls Try.prog 8 #[.int .u8 more, .bool ahead] w fun e w' => e = .returned (.bool true) ∧ Below w.heap.size w w' := by
  obtain ⟨i0, hi, hz0, hz1, hz2⟩ := info_parts info5
  obtain ⟨j0, hj, jz0, jz1, jz2⟩ := info_parts info79
  obtain ⟨n, hN⟩ : ∃ n : Nat, 65535 + more % 3 = (n : Int) := ⟨(65535 + more % 3).toNat, by omega⟩
  have hn1 : n ≤ 65537 := by omega
  have hn2 : 65535 ≤ n := by omega
  have hmk : ∀ W : World, (Instr.makeSlice 77 (.int .i64 (n : Int)) (.int .i64 (n : Int))).run Try.prog W = .ok (.slice (some ⟨W.heap.size, 0, none⟩) n n) (W.alloc (.cells (fillB n 0) 5)) := by
    intro W
    have := run_make (P := Try.prog) (w := W) 77 5 i0 (.int .u8 0) Try.underlying77 hi hz0 .i64 .i64 (n : Int) (n : Int) (by omega) (by omega) (by rw [hz2]; omega) (by omega)
    rw [this, hz1]
    simp only [Int.toNat_natCast, Nat.mul_one]
    rw [show Value.cells (.int .u8 0) = #[.int .u8 0] from rfl, made_fill]
  go_enter Try.func8, Try.ntmps8
  go_wp2_with fail
  refine (awake_any _).mono ?_
  rintro e w1 ⟨rfl, b1⟩
  go_wp2_with fail
  have hs1 := b1.size
  go_loopw [6] (fun v6 wr => ∃ k : Nat, k ≤ n ∧ v6 = .int .i64 (k : Int) ∧ Filled n k w1.heap.size wr ∧ Below w.heap.size w wr) (fun i _ => n - (intOf i).toNat)
  case atStart => exact ⟨0, Nat.zero_le _, rfl, heap_alloc_new _ _, b1.alloc hs1 _⟩
  case round =>
    obtain ⟨k, hk, rfl, hF, hB⟩ := hrel
    by_cases hlt : k < n
    · have hc : wr.cell? ⟨w1.heap.size, k, none⟩ = some (.int .u8 (num k k)) := by rw [cell_at hF, fillB_get _ _ _ hlt]
      have hf := frozen_at hF k
      go_wp2
      go_roundw
      case rel => exact ⟨k + 1, by omega, by go_num, hF.set, hB.setCell hs1 _⟩
      case measure => simp [intOf]; omega
    · obtain rfl : k = n := by omega
      have hcv : ∀ W : World, W.heap[w1.heap.size]? = wr.heap[w1.heap.size]? → (convert 77 9 (.slice (some ⟨w1.heap.size, 0, none⟩) k k)).run Try.prog W = .ok (.string (strOfNums (List.replicate k 109))) W := by
        intro W hW
        refine run_convert_bytes_arg (P := Try.prog) (w := W) 77 5 Try.underlying77 Try.underlying5 w1.heap.size 0 k k (List.replicate k 109) (by simp) ?_ _ Try.underlying9
        intro i hi
        rw [cell_at (hW.trans hF), Nat.zero_add, fillB_get _ _ _ hi]
        simp [num, hi]
      have hcv0 := hcv wr rfl
      have hsz : (strOfNums (List.replicate k 109)).size = k := by rw [strOfNums_size]; simp
      generalize hS : strOfNums (List.replicate k 109) = s at *
      clear hcv hS
      have hfit : Fits [⟨s, 1⟩] := by
        intro x hx
        rw [List.mem_singleton.1 hx]
        exact ⟨by unfold In64; simp, by simp only; omega⟩
      have hfit2 : Fits [⟨⟨#[97]⟩, 1⟩, ⟨s, 1⟩] := by
        intro x hx
        rcases List.mem_cons.1 hx with rfl | h
        · exact ⟨by unfold In64; simp, by simp [ByteArray.size]⟩
        · exact hfit x h
      have hs2 := hB.size
      cases ahead
      · go_wp2_with fail
        have c1 : Kd.C k79 (wr.alloc (.cells #[.string s, .int .i64 1] 79)) (some ⟨wr.heap.size, 0, none⟩) ([⟨s, 1⟩] : List S79).length [⟨s, 1⟩] :=
          cells_C k79 enc79 (fun _ => rfl) k79_mk (heap_alloc_new _ _) rfl (by simp)
        have b2 := hB.alloc hs2 (.cells #[.string s, .int .i64 1] 79)
        refine (check_any _ _ _ _ c1 (by simp) hfit (by simp)).mono ?_
        rintro e w3 ⟨rfl, b3⟩
        have c3 := Kd.C_below c1 b3
        replace b3 := b2.trans (b3.mono b2.size)
        go_wp2_with fail
        refine (rcheck_any _ _ _ _ c3 (by simp) hfit (by simp)).mono ?_
        rintro e w4 ⟨rfl, b4⟩
        replace b4 := b3.trans (b4.mono b3.size)
        go_wp2_with fail
        go_ret
        exact ⟨rfl, b4⟩
      · go_wp2_with fail
        have hcap : 2 ≤ (Question.appendCap 2 1 79).cut (wr.tape wr.drawn (Question.appendCap 2 1 79)) := by simp [Question.cut]
        generalize (Question.appendCap 2 1 79).cut (wr.tape wr.drawn (Question.appendCap 2 1 79)) = cp at *
        generalize Builtin.zeroCells #[Value.string { data := #[] }, Value.int IntKind.i64 0] (cp - 2) = zs
        have b2 : Below w.heap.size w (((wr.alloc (.cells #[.string s, .int .i64 1] 79)).alloc (.cells #[.string { data := #[97] }, .int .i64 1] 79)).alloc (.cells (#[.string { data := #[97] }, .int .i64 1] ++ (#[.string s, .int .i64 1] ++ zs)) 79)).drew :=
          (((hB.alloc hs2 _).alloc (by simp; omega) _).alloc (by simp; omega) _).drew
        have c1 : Kd.C k79 (((wr.alloc (.cells #[.string s, .int .i64 1] 79)).alloc (.cells #[.string { data := #[97] }, .int .i64 1] 79)).alloc (.cells (#[.string { data := #[97] }, .int .i64 1] ++ (#[.string s, .int .i64 1] ++ zs)) 79)).drew (some ⟨wr.heap.size + 1 + 1, 0, none⟩) ([⟨⟨#[97]⟩, 1⟩, ⟨s, 1⟩] : List S79).length [⟨⟨#[97]⟩, 1⟩, ⟨s, 1⟩] := by
          refine cells_C k79 enc79 (fun _ => rfl) k79_mk (arr := #[.string { data := #[97] }, .int .i64 1] ++ (#[.string s, .int .i64 1] ++ zs)) (e := 79) (fz := (0, 0)) ?_ ?_ (by simp)
          · have := heap_alloc_new ((wr.alloc (.cells #[.string s, .int .i64 1] 79)).alloc (.cells #[.string { data := #[97] }, .int .i64 1] 79)) (.cells (#[.string { data := #[97] }, .int .i64 1] ++ (#[.string s, .int .i64 1] ++ zs)) 79)
            rw [World.size_alloc, World.size_alloc] at this
            exact this
          · simp [enc79]
            rfl
        refine (check_any _ _ _ _ c1 (by simpa using hcap) hfit2 (by simp)).mono ?_
        rintro e w3 ⟨rfl, b3⟩
        have c3 := Kd.C_below c1 b3
        replace b3 := b2.trans (b3.mono b2.size)
        go_wp2_with fail
        refine (rcheck_any _ _ _ _ c3 (by simpa using hcap) hfit2 (by simp)).mono ?_
        rintro e w4 ⟨rfl, b4⟩
        replace b4 := b3.trans (b4.mono b3.size)
        go_wp2_with fail
        go_ret
        exact ⟨rfl, b4⟩

theorem walk (W : World) (a0 : Int) (h0 : (Lit.int .u8 a0).wf = true) (a1 : Bool) :
    Calls Try.prog 8 #[.int .u8 a0, .bool a1] W fun e w' => e = .returned (.bool true) ∧ Below W.heap.size W w' := by
  have h : 0 ≤ a0 ∧ a0 ≤ 255 := by simpa [Lit.wf, IntKind.min, IntKind.max, IntKind.signed, IntKind.bits] using h0
  exact law_a a0 a1 W h.1 h.2
end Go.Proofs.Ytbldnjpdeldabaa.TableLong
