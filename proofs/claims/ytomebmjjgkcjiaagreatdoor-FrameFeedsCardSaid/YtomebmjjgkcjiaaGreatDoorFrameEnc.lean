/-
  frame.Encode, frame.New, Held, Dead: their contracts.
-/
import Derived.Test.YtomebmjjgkcjiaaGreatDoorFrameFeed
import Derived.Lib.ItoaLen
set_option linter.unusedVariables false
namespace Go.Proofs.YtomebmjjgkcjiaaGreatDoor.G
open Go.RowKit Go.Proofs.YtomebmjjgkcjiaaGreatDoorW.PrintWords Go.Lib
def headOfLen (n : Nat) : List UInt8 := [67, 111, 110, 116, 101, 110, 116, 45, 76, 101, 110, 103, 116, 104, 58, 32] ++ itoa (n : Int) ++ [13, 10, 13, 10]
/-- A message's bytes. -/
def encL (b : List UInt8) : List UInt8 := headOfLen b.length ++ b
set_option maxHeartbeats 4000000 in
set_option maxRecDepth 100000 in
theorem Encode_long (A : Option Addr) (c : Nat) (b : List UInt8) (w : World) (hl : 65536 < b.length) :
    Calls Tryz.prog 14 #[.slice A b.length c] w fun e w' => e = .returned (.tuple #[.slice none 0 0, .int .i64 31]) ∧ w' = w := by
  have h1 : (65536 : Int) < (b.length : Int) := by omega
  clear hl
  go_enter Tryz.func14, Tryz.ntmps14
  go_wp2_with (fail)
  go_ret2
  exact ⟨rfl, rfl⟩
set_option maxHeartbeats 4000000 in
set_option maxRecDepth 100000 in
theorem Encode_calls (A : Option Addr) (c : Nat) (b : List UInt8) (w : World) (hT : TF w) (hC : Kd.C (Kd.int .u8) w A b.length (ints b)) (hc : b.length ≤ c) (hl : b.length ≤ 65536) :
    Calls Tryz.prog 14 #[.slice A b.length c] w fun e w' => ∃ A' c', e = .returned (.tuple #[.slice A' (encL b).length c', .int .i64 0]) ∧ OwnB w' w.heap.size (.slice A' (encL b).length c') (ints (encL b)) ∧ Below w.heap.size w w' := by
  have h1 : ¬ (65536 : Int) < (b.length : Int) := by omega
  have HI := Aside0.mk (GItoa.calls (b.length : Int) ⟨(itoa (b.length : Int)).toArray⟩ w hT (by unfold GItoa.f; rw [if_pos ⟨by omega, by omega⟩]))
  have HC := Aside0.mk hC
  have Hl := Aside0.mk (And.intro hl hc)
  obtain ⟨I, hI⟩ : ∃ I : ByteArray, (⟨(itoa (b.length : Int)).toArray⟩ : ByteArray) = I := ⟨_, rfl⟩
  have hId : I.data.toList = itoa (b.length : Int) := by rw [← hI]
  rw [hI] at HI
  have HId := Aside0.mk hId
  have hIs : I.size ≤ 21 := by rw [Lib.size_eq, hId]; exact itoa_length_le _ (by omega) (by omega)
  clear hI hId hT hC hl hc
  obtain ⟨S, hS⟩ : ∃ S : ByteArray, (⟨#[67, 111, 110, 116, 101, 110, 116, 45, 76, 101, 110, 103, 116, 104, 58, 32]⟩ : ByteArray) ++ I ++ ⟨#[13, 10, 13, 10]⟩ = S := ⟨_, rfl⟩
  have hSd : S.data.toList = headOfLen b.length := by
    rw [← hS, ByteArray.data_append, ByteArray.data_append, Array.toList_append, Array.toList_append, HId.out]
    rfl
  have hSz : (headOfLen b.length).length = 16 + I.size + 4 := by
    unfold headOfLen
    rw [← HId.out, List.length_append, List.length_append, ← Lib.size_eq]
    rfl
  have HS := Aside0.mk (And.intro hS (And.intro hSd hSz))
  clear hS hSd hSz
  have hconv := fun (W : World) (s : ByteArray) => Lib.run_convert_string_bytes (P := Tryz.prog) W 9 27 5 s Tryz.underlying9 Tryz.underlying27 Tryz.underlying5
  go_enter Tryz.func14, Tryz.ntmps14
  go_wp2_with (go_at_call 20; refine HI.out.mono ?_; rintro e w1 ⟨rfl, hb⟩; have HB1 := Aside0.mk hb; clear hb)
  obtain ⟨hS, hSd, hSz⟩ := HS.out
  rw [hS]
  have hCS : Kd.C (Kd.int .u8) (bytesWorld w1 5 S) (some ⟨w1.heap.size, 0, none⟩) (headOfLen b.length).length (ints (headOfLen b.length)) := by
    have := conv_reads w1 5 S (by have := Lib.size_eq S; rw [hSd, hSz] at this; omega)
    rw [show YtomebmjjgkcjiaaGreatDoorW.PrintWords.bytesOf S = ints S.data.toList from rfl, ints_length, hSd] at this
    exact this
  have hBS : Below w.heap.size w (bytesWorld w1 5 S) := below_step HB1.out (conv_below w1 _ S)
  refine (Concat_ints (bytesWorld w1 5 S).heap.size (some ⟨w1.heap.size, 0, none⟩) A (grownCap w1 (16 + I.size + 4) 0 5) c (headOfLen b.length) b _ (by rw [hSz]; exact World.cell?_alloc_mark _ _ _ _ 0) (World.cell?_alloc_mark _ _ _ _ 1) (Kd.C_below hCS (below_alloc (Below.refl _ _) _)) (Kd.C_below HC.out (below_alloc hBS _)) (by rw [hSz]; have := Hl.out.1; omega)).mono ?_
  rintro e w3 ⟨A3, c3, rfl, hO, _, _, _, _, hB⟩
  have HO := Aside0.mk hO
  have HB3 := Aside0.mk (below_step (below_alloc hBS _) hB)
  have Hsz := Aside0.mk hBS.size
  clear hO hB hCS hBS
  go_wp2_with (fail)
  go_ret2
  have hel : (encL b).length = 16 + I.size + 4 + b.length := by unfold encL; rw [List.length_append, hSz]
  refine ⟨A3, c3, by rw [hel]; rfl, Kd.R_lower HO.out (by rw [World.size_alloc]; have := Hsz.out; omega), HB3.out⟩
end Go.Proofs.YtomebmjjgkcjiaaGreatDoor.G
