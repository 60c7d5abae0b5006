/-
  The laws' walks in the rows' words, second part.
-/
import Derived.Test.YtomebmjjgkcjiaaDoorFrameRows
import Derived.Test.YtomebmjjgkcjiaaDoorFrameOthers
set_option linter.unusedVariables false
namespace Go.Proofs.YtomebmjjgkcjiaaDoor.G
open Go.RowKit Go.Proofs.YtomebmjjgkcjiaaDoorW.PrintWords Go.Lib
theorem wf_i64 {x : Int} (h : (Lit.int .i64 x).wf = true) : -9223372036854775808 ≤ x ∧ x ≤ 9223372036854775807 := by
  have := (Lit.wf_int_iff .i64 x).1 h
  have h1 : IntKind.i64.min = -9223372036854775808 := by decide
  have h2 : IntKind.i64.max = 9223372036854775807 := by decide
  omega
theorem rows_bytes (l0 : List (List Int)) (o0 : ∀ y0_ ∈ l0, (y0_.length ≤ maxLen ∧ y0_.length * 1 ≤ 140737488351232 ∧ ∀ y1_ ∈ y0_, (Lit.int .u8 y1_).wf = true)) : ∃ ps : List (List UInt8), ps.map ints = l0 ∧ ps.length = l0.length ∧ ∀ p ∈ ps, p.length ≤ 140737488355328 := by
  refine ⟨l0.map Lib.bytesOf, ?_, by simp, ?_⟩
  · rw [List.map_map]
    conv => rhs; rw [← List.map_id l0]
    exact List.map_congr_left (fun y hy => ints_bytes y (o0 y hy).2.2)
  · intro p hp
    obtain ⟨y, hy, rfl⟩ := List.mem_map.1 hp
    have hl : (Lib.bytesOf y).length = y.length := by rw [← ints_length, ints_bytes y (o0 y hy).2.2]
    have := (o0 y hy).2.1
    omega
theorem round_row (A0 : Option Addr) (c0 : Nat) (l0 : List (List Int)) (a1 : Int) (w : World) (hr0 : Kd.C (Kd.slice 5 (Kd.int .u8)) w A0 l0.length l0) (hc0 : l0.length ≤ c0) (o0 : (l0.length ≤ maxLen ∧ l0.length * 24 ≤ 140737488351232 ∧ ∀ y0_ ∈ l0, (y0_.length ≤ maxLen ∧ y0_.length * 1 ≤ 140737488351232 ∧ ∀ y1_ ∈ y0_, (Lit.int .u8 y1_).wf = true))) (w1 : (Lit.int .i64 a1).wf = true) (hT : TF w) :
    Calls Tryd.prog 6 #[.slice A0 l0.length c0, .int .i64 a1] w fun e w' => e = .returned (.bool true) ∧ Below w.heap.size w w' := by
  obtain ⟨ps, rfl, hl, hm⟩ := rows_bytes l0 o0.2.2
  rw [List.length_map] at hr0 hc0 o0 ⊢
  exact round_calls A0 c0 ps a1 w hT hr0 hc0 (by have := o0.2.1; omega) hm (wf_i64 w1)
theorem others_row (a0 : Option Addr) (len0 cap0 : Nat) (z0 : List Int) (a1 a2 : ByteArray) (a3 : Bool) (w : World) (w0 : RowU8 w a0 len0 cap0 z0) (y0 : len0 * 1 ≤ 140737488351232) (w1 : a1.size ≤ 140737488351232) (w2 : a2.size ≤ 140737488351232) (hT : TF w) :
    Calls Tryd.prog 7 #[.slice a0 len0 cap0, .string a1, .string a2, .bool a3] w fun e w' => e = .returned (.bool true) ∧ Below w.heap.size w w' := by
  obtain ⟨b, rfl, h1, h2⟩ := row_bytes w0
  exact others_calls a0 cap0 b a1 a2 a3 w hT h1 h2 (by omega) (by omega)
end Go.Proofs.YtomebmjjgkcjiaaDoor.G
