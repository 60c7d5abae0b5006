/-
  The law VfsNames: its walk. Sync of no name is refused ahead of all memory; the numbers are what they are.
-/
import Derived.Test.YtchlehaifnglpaaDoorProg
import Derived.Test.YtchlehaifnglpaaDoorWWords
import Derived.WalkKit
import Derived.Deep.LoopGhost
import Derived.Deep.QuietTactic
import Derived.BigQuiet
import Derived.Outline
import Derived.Carry
set_option linter.unusedVariables false
namespace Go.Proofs.YtchlehaifnglpaaDoor.G
open Go.RowKit Go.Proofs.YtchlehaifnglpaaDoorW.PrintWords
/-- vfs.New: an empty map, and the file system's block. -/
theorem New_calls (n : Int) (w : World) : Calls Tryd.prog 8 #[.int .i64 n] w fun e w' => e = .returned (.pointer (some ⟨w.heap.size + 1, 0, none⟩)) ∧ w' = (w.alloc (.map #[] 0)).alloc (.cells #[.int .i64 n, .map (some w.heap.size)] 60) := by
  have hmm := @run_makeMap Tryd.prog
  have hu := Tryd.underlying60
  go_enter Tryd.func8, Tryd.ntmps8
  go_wp2
  go_ret
  exact ⟨rfl, rfl⟩
theorem named_empty (w : World) : Calls Tryd.prog 43 #[.string ⟨#[]⟩] w fun e w' => e = .returned (.bool false) ∧ w = w' := by
  go_enter Tryd.func43, Tryd.ntmps43
  go_wp2
  go_ret
  exact ⟨rfl, rfl⟩
theorem find_empty (p : Value) (w : World) : Calls Tryd.prog 28 #[p, .string ⟨#[]⟩] w fun e w' => e = .returned (.tuple #[.pointer none, .int .i64 10]) ∧ w = w' := by
  go_enter Tryd.func28, Tryd.ntmps28
  go_wp2_with (go_at_call 43; refine (named_empty _).mono ?_; rintro e w' ⟨rfl, rfl⟩)
  go_ret2
  exact ⟨rfl, rfl⟩
theorem change_empty (p f : Value) (w : World) : Calls Tryd.prog 26 #[p, .string ⟨#[]⟩, f] w fun e w' => e = .returned (.int .i64 10) ∧ w = w' := by
  go_enter Tryd.func26, Tryd.ntmps26
  go_wp2_with (go_at_call 28; refine (find_empty _ _).mono ?_; rintro e w' ⟨rfl, rfl⟩)
  go_ret
  exact ⟨rfl, rfl⟩
theorem Sync_empty (p : Value) (w : World) : Calls Tryd.prog 9 #[p, .string ⟨#[]⟩] w fun e w' => e = .returned (.int .i64 10) ∧ w = w' := by
  go_enter Tryd.func9, Tryd.ntmps9
  go_wp2_with (go_at_call 26; refine (change_empty _ _ _).mono ?_; rintro e w' ⟨rfl, rfl⟩)
  go_ret
  exact ⟨rfl, rfl⟩
def errNums : List Int := [10, 11, 12, 13, 20, 30, 31, 40, 50, 51, 52, 60, 61, 62, 70, 71, 120, 130, 131, 140, 150, 170, 200, 210, 220, 221]
def limNums : List Int := [32, 65536, 1024, 65536, 64, 32768, 4096, 300, 1073741824, 64, -32700, -32600, -32601, -32602, -32800, -32801, -32802]
theorem num_cell {W : World} {b T : Nat} {L : List Int} (h : W.heap[b]? = some (.cells (L.map (Value.int .i64)).toArray T (0, 0))) (i : Nat) (hi : i < L.length) : W.cell? ⟨b, i, none⟩ = some (.int .i64 L[i]) := by
  simp [World.cell?, h, hi]
set_option maxHeartbeats 4000000 in
set_option maxRecDepth 100000 in
theorem vfsNames_calls (w : World) : Calls Tryd.prog 3 #[] w fun e w' => e = .returned (.bool true) ∧ Below w.heap.size w w' := by
  go_enter Tryd.func3, Tryd.ntmps3
  go_upto_region 6 with (first | (go_at_call 8; refine (New_calls _ _).mono ?_; rintro e w' ⟨rfl, rfl⟩) | (go_at_call 9; refine (Sync_empty _ _).mono ?_; rintro e w' ⟨rfl, rfl⟩))
  generalize hW : World.alloc _ (.cells _ 3) = W
  have hw : Below w.heap.size w W ∧ W.heap[w.heap.size + 1 + 1]? = some (.cells (errNums.map (Value.int .i64)).toArray 24 (0, 0)) ∧ W.heap[w.heap.size + 1 + 1 + 1]? = some (.cells (errNums.map (Value.int .i64)).toArray 3 (0, 0)) := by
    rw [← hW]
    refine ⟨below_alloc (below_alloc (below_alloc (below_alloc (Below.refl _ w) _) _) _) _, ?_, ?_⟩
    · rw [Below.heap_alloc _ _ _ (by simp)]
      have := (MapKept.heap_alloc ((w.alloc (.map #[] 0)).alloc (.cells #[.int .i64 (-1), .map (some w.heap.size)] 60)) (.cells (errNums.map (Value.int .i64)).toArray 24)).1
      rw [show ((w.alloc (.map #[] 0)).alloc (.cells #[.int .i64 (-1), .map (some w.heap.size)] 60)).heap.size = w.heap.size + 1 + 1 by simp] at this
      exact this
    · have := (MapKept.heap_alloc (((w.alloc (.map #[] 0)).alloc (.cells #[.int .i64 (-1), .map (some w.heap.size)] 60)).alloc (.cells (errNums.map (Value.int .i64)).toArray 24)) (.cells (errNums.map (Value.int .i64)).toArray 3)).1
      rw [show (((w.alloc (.map #[] 0)).alloc (.cells #[.int .i64 (-1), .map (some w.heap.size)] 60)).alloc (.cells (errNums.map (Value.int .i64)).toArray 24)).heap.size = w.heap.size + 1 + 1 + 1 by simp] at this
      exact this
  have HW := Aside0.mk hw
  clear hw hW
  go_wp2_with (fail)
  go_loopg [4] 27 (fun gk v wr => ∃ i : Nat, v = .int .i64 i ∧ Aside0 (i ≤ 26 ∧ 26 - i < gk) ∧ Aside0 (Below w.heap.size w wr ∧ wr.heap[w.heap.size + 1 + 1]? = some (.cells (errNums.map (Value.int .i64)).toArray 24 (0, 0)) ∧ wr.heap[w.heap.size + 1 + 1 + 1]? = some (.cells (errNums.map (Value.int .i64)).toArray 3 (0, 0))))
  case atStart => exact ⟨0, rfl, ⟨by omega, by omega⟩, HW⟩
  case round =>
    obtain ⟨i, rfl, HI, HB⟩ := hrel
    by_cases hlt : i < 26
    · have c1 := num_cell HB.out.2.1 i hlt
      have c2 := num_cell HB.out.2.2 i hlt
      have hne : (errNums[i] != errNums[i]) = false := by simp
      have h0 : 0 ≤ (i : Int) := by omega
      have h1 : (i : Int) < 26 := by omega
      have h2 : decide ((i : Int) < 26) = true := by simp; omega
      have h3 : decide ((26 : Int) ≤ (i : Int)) = false := by simp; omega
      generalize errNums[i] = q at *
      go_wp2_with (fail)
      go_quiet (fail)
      go_wp2
      obtain ⟨gk, rfl⟩ : ∃ g, gk = g + 1 := ⟨gk - 1, by have := HI.out; omega⟩
      go_roundg gk
      case measure => omega
      case rel => exact ⟨i + 1, by go_num, ⟨by omega, by have := HI.out; omega⟩, ⟨pw_below_drewN HB.out.1 _, HB.out.2⟩⟩
    · have hge : decide ((i : Int) < 26) = false := by simp; omega
      go_wp2_with (fail)
      generalize hV : World.alloc _ (.cells _ 3) = V
      have hv : Below w.heap.size w V ∧ V.heap[wr.heap.size]? = some (.cells (limNums.map (Value.int .i64)).toArray 3 (0, 0)) ∧ V.heap[wr.heap.size + 1]? = some (.cells (limNums.map (Value.int .i64)).toArray 3 (0, 0)) := by
        rw [← hV]
        refine ⟨below_alloc (below_alloc HB.out.1 _) _, ?_, ?_⟩
        · rw [Below.heap_alloc _ _ _ (by simp)]
          exact (MapKept.heap_alloc wr (.cells (limNums.map (Value.int .i64)).toArray 3)).1
        · have := (MapKept.heap_alloc (wr.alloc (.cells (limNums.map (Value.int .i64)).toArray 3)) (.cells (limNums.map (Value.int .i64)).toArray 3)).1
          rw [show (wr.alloc (.cells (limNums.map (Value.int .i64)).toArray 3)).heap.size = wr.heap.size + 1 by simp] at this
          exact this
      have HV := Aside0.mk hv
      clear hv hV
      obtain ⟨wq, hwq⟩ : ∃ wq, wq = wr := ⟨_, rfl⟩
      rw [← hwq] at HV ⊢
      clear hwq
      go_loopg [7] 18 (fun gk v wr => ∃ i : Nat, v = .int .i64 i ∧ Aside0 (i ≤ 17 ∧ 17 - i < gk) ∧ Aside0 (Below w.heap.size w wr ∧ wr.heap[wq.heap.size]? = some (.cells (limNums.map (Value.int .i64)).toArray 3 (0, 0)) ∧ wr.heap[wq.heap.size + 1]? = some (.cells (limNums.map (Value.int .i64)).toArray 3 (0, 0))))
      case atStart => exact ⟨0, rfl, ⟨by omega, by omega⟩, HV⟩
      case round =>
        obtain ⟨i, rfl, HJ, HD⟩ := hrel
        by_cases hlt : i < 17
        · have c1 := num_cell HD.out.2.1 i hlt
          have c2 := num_cell HD.out.2.2 i hlt
          have hne : (limNums[i] != limNums[i]) = false := by simp
          have h0 : 0 ≤ (i : Int) := by omega
          have h1 : (i : Int) < 17 := by omega
          have h2 : decide ((i : Int) < 17) = true := by simp; omega
          have h3 : decide ((17 : Int) ≤ (i : Int)) = false := by simp; omega
          generalize limNums[i] = q at *
          go_wp2_with (fail)
          go_quiet (fail)
          go_wp2
          obtain ⟨gk, rfl⟩ : ∃ g, gk = g + 1 := ⟨gk - 1, by have := HJ.out; omega⟩
          go_roundg gk
          case measure => omega
          case rel => exact ⟨i + 1, by go_num, ⟨by omega, by have := HJ.out; omega⟩, ⟨pw_below_drewN HD.out.1 _, HD.out.2⟩⟩
        · have hge : decide ((i : Int) < 17) = false := by simp; omega
          have hge2 : decide ((i : Int) < 17) = false := by simp; omega
          go_wp2
          go_ret
          exact ⟨rfl, HD.out.1⟩
end Go.Proofs.YtchlehaifnglpaaDoor.G
