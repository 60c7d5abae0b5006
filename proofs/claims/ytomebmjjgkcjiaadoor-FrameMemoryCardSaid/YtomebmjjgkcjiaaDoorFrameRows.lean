/-
  The laws' walks in the rows' words.
-/
import Derived.Test.YtomebmjjgkcjiaaDoorFrameEncLaw
import Derived.DataShut
set_option linter.unusedVariables false
namespace Go.Proofs.YtomebmjjgkcjiaaDoor.G
open Go.RowKit Go.Proofs.YtomebmjjgkcjiaaDoorW.PrintWords Go.Lib
theorem byte_wf {x : Int} (h : (Lit.int .u8 x).wf = true) : 0 ≤ x ∧ x ≤ 255 := by
  have := (Lit.wf_int_iff .u8 x).1 h
  have h1 : IntKind.u8.min = 0 := by decide
  have h2 : IntKind.u8.max = 255 := by decide
  omega
theorem ints_bytes (l : List Int) (h : ∀ x ∈ l, (Lit.int .u8 x).wf = true) : ints (Lib.bytesOf l) = l := by
  unfold ints Lib.bytesOf
  rw [List.map_map]
  conv => rhs; rw [← List.map_id l]
  apply List.map_congr_left
  intro x hx
  have := byte_wf (h x hx)
  show (((UInt8.ofNat x.toNat).toNat : Nat) : Int) = x
  rw [UInt8.toNat_ofNat']
  omega
abbrev RowU8 (w : World) (a0 : Option Addr) (len0 cap0 : Nat) (z0 : List Int) : Prop := (a0 = none ∧ len0 = 0 ∧ cap0 = 0 ∧ z0 = []) ∨ ∃ x, a0 = some x ∧ len0 ≤ cap0 ∧ cap0 ≤ maxLen ∧ z0.length = cap0 ∧ (∀ i, i < z0.length → w.cell? (x.add i) = some (.int .u8 (z0.getD i 0))) ∧ ∀ n ∈ z0, (Lit.int .u8 n).wf = true
theorem row_bytes {w : World} {a0 : Option Addr} {len0 cap0 : Nat} {z0 : List Int} (w0 : RowU8 w a0 len0 cap0 z0) : ∃ b : List UInt8, b.length = len0 ∧ Kd.C (Kd.int .u8) w a0 b.length (ints b) ∧ b.length ≤ cap0 := by
  obtain ⟨l0, rfl, hr0, hm0, hw0, hc0⟩ := ReadsInt.ofRowC w0
  have hb := ints_bytes l0 hw0
  have hl : (Lib.bytesOf l0).length = l0.length := by rw [← ints_length, hb]
  refine ⟨Lib.bytesOf l0, hl, ?_, by rw [hl]; exact hc0⟩
  rw [hb, hl]
  exact Kd.C_of_reads (d := (0 : Int)) (h1 := fun _ => rfl) hr0
theorem wf_i64 {x : Int} (h : (Lit.int .i64 x).wf = true) : -9223372036854775808 ≤ x ∧ x ≤ 9223372036854775807 := by
  have := (Lit.wf_int_iff .i64 x).1 h
  have h1 : IntKind.i64.min = -9223372036854775808 := by decide
  have h2 : IntKind.i64.max = 9223372036854775807 := by decide
  omega
theorem encodes_row (a0 : Option Addr) (len0 cap0 : Nat) (z0 : List Int) (w : World) (w0 : RowU8 w a0 len0 cap0 z0) (y0 : len0 * 1 ≤ 140737488351232) (hT : TF w) :
    Calls Tryd.prog 3 #[.slice a0 len0 cap0] w fun e w' => e = .returned (.bool true) ∧ Below w.heap.size w w' := by
  obtain ⟨b, rfl, h1, h2⟩ := row_bytes w0
  exact encodes_calls a0 cap0 b w hT h1 h2
theorem dead_row (a0 : Option Addr) (len0 cap0 : Nat) (z0 : List Int) (a1 : Option Addr) (len1 cap1 : Nat) (z1 : List Int) (w : World) (w0 : RowU8 w a0 len0 cap0 z0) (y0 : len0 * 1 ≤ 140737488351232) (w1 : RowU8 w a1 len1 cap1 z1) (y1 : len1 * 1 ≤ 140737488351232) (hT : TF w) :
    Calls Tryd.prog 8 #[.slice a0 len0 cap0, .slice a1 len1 cap1] w fun e w' => e = .returned (.bool true) ∧ Below w.heap.size w w' := by
  obtain ⟨b, rfl, h1, h2⟩ := row_bytes w0
  obtain ⟨m, rfl, h3, h4⟩ := row_bytes w1
  exact dead_calls a0 a1 cap0 cap1 b m w hT h1 h2 h3 h4 (by omega) (by omega)
theorem pieces_row (a0 : Option Addr) (len0 cap0 : Nat) (z0 : List Int) (a1 : Option Addr) (len1 cap1 : Nat) (z1 : List Int) (w : World) (w0 : RowU8 w a0 len0 cap0 z0) (y0 : len0 * 1 ≤ 140737488351232) (w1 : (a1 = none ∧ len1 = 0 ∧ cap1 = 0 ∧ z1 = []) ∨ ∃ x, a1 = some x ∧ len1 ≤ cap1 ∧ cap1 ≤ maxLen ∧ z1.length = cap1 ∧ (∀ i, i < z1.length → w.cell? (x.add i) = some (.int .i64 (z1.getD i 0))) ∧ ∀ n ∈ z1, (Lit.int .i64 n).wf = true) (y1 : len1 * 8 ≤ 140737488351232) (hT : TF w) :
    Calls Tryd.prog 5 #[.slice a0 len0 cap0, .slice a1 len1 cap1] w fun e w' => e = .returned (.bool true) ∧ Below w.heap.size w w' := by
  obtain ⟨b, rfl, h1, h2⟩ := row_bytes w0
  obtain ⟨l1, rfl, hr1, hm1, hw1, hc1⟩ := ReadsInt.ofRowC w1
  exact pieces_calls a0 a1 cap0 cap1 b l1 w hT h1 h2 (Kd.C_of_reads (d := (0 : Int)) (h1 := fun _ => rfl) hr1) hc1 (by omega) (by omega)
end Go.Proofs.YtomebmjjgkcjiaaDoor.G
