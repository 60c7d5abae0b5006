/-
  The law FrameFeeds in the row's words.
-/
import Derived.Test.YtomebmjjgkcjiaaGreatDoorFrameFeedsLaw
import Derived.DataShut
set_option linter.unusedVariables false
namespace Go.Proofs.YtomebmjjgkcjiaaGreatDoor.G
open Go.RowKit Go.Proofs.YtomebmjjgkcjiaaGreatDoorW.PrintWords Go.Lib
theorem byte_wf {x : Int} (h : (Lit.int .u8 x).wf = true) : 0 ≤ x ∧ x ≤ 255 := by
  have := (Lit.wf_int_iff .u8 x).1 h
  have h1 : IntKind.u8.min = 0 := by decide
  have h2 : IntKind.u8.max = 255 := by decide
  omega
theorem ints_bytes (l : List Int) (h : ∀ x ∈ l, (Lit.int .u8 x).wf = true) : ints (Lib.bytesOf l) = l := by
  unfold ints Lib.bytesOf
  rw [List.map_map]
  conv => rhs; rw [← List.map_id l]
  apply List.map_congr_left
  intro x hx
  have := byte_wf (h x hx)
  show (((UInt8.ofNat x.toNat).toNat : Nat) : Int) = x
  rw [UInt8.toNat_ofNat']
  omega
theorem rows_bytes (l0 : List (List Int)) (o0 : ∀ y0_ ∈ l0, (y0_.length ≤ maxLen ∧ y0_.length * 1 ≤ 140737488351232 ∧ ∀ y1_ ∈ y0_, (Lit.int .u8 y1_).wf = true)) : ∃ ps : List (List UInt8), ps.map ints = l0 ∧ ps.length = l0.length ∧ ∀ p ∈ ps, p.length ≤ 140737488355328 := by
  refine ⟨l0.map Lib.bytesOf, ?_, by simp, ?_⟩
  · rw [List.map_map]
    conv => rhs; rw [← List.map_id l0]
    exact List.map_congr_left (fun y hy => ints_bytes y (o0 y hy).2.2)
  · intro p hp
    obtain ⟨y, hy, rfl⟩ := List.mem_map.1 hp
    have hl : (Lib.bytesOf y).length = y.length := by rw [← ints_length, ints_bytes y (o0 y hy).2.2]
    have := (o0 y hy).2.1
    omega
theorem feeds_row (A0 : Option Addr) (c0 : Nat) (l0 : List (List Int)) (w : World) (hr0 : Kd.C (Kd.slice 5 (Kd.int .u8)) w A0 l0.length l0) (hc0 : l0.length ≤ c0) (o0 : (l0.length ≤ maxLen ∧ l0.length * 24 ≤ 140737488351232 ∧ ∀ y0_ ∈ l0, (y0_.length ≤ maxLen ∧ y0_.length * 1 ≤ 140737488351232 ∧ ∀ y1_ ∈ y0_, (Lit.int .u8 y1_).wf = true))) (hT : TF w) :
    Calls Tryz.prog 3 #[.slice A0 l0.length c0] w fun e w' => e = .returned (.bool true) ∧ Below w.heap.size w w' := by
  obtain ⟨ps, rfl, hl, hm⟩ := rows_bytes l0 o0.2.2
  rw [List.length_map] at hr0 hc0 o0 ⊢
  exact feeds_calls A0 c0 ps w hT hr0 hc0 (by have := o0.2.1; omega) hm
end Go.Proofs.YtomebmjjgkcjiaaGreatDoor.G
