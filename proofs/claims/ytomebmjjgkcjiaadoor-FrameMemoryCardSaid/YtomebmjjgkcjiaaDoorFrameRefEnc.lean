/-
  An append onto []byte(s); the document's Encode: its contract.
-/
import Derived.Test.YtomebmjjgkcjiaaDoorFrameShow
import Derived.ArgAppend
import Derived.Lib.AppendZeros
import Derived.Laws.IdiomCopy
set_option linter.unusedVariables false
namespace Go.Proofs.YtomebmjjgkcjiaaDoor.G
open Go.RowKit Go.Proofs.YtomebmjjgkcjiaaDoorW.PrintWords Go.Lib
theorem conv_append (W : World) (S : ByteArray) (b : List UInt8) (A : Option Addr) (c : Nat) (hC : Kd.C (Kd.int .u8) W A b.length (ints b)) (hl : S.size + b.length ≤ 17592186044416) :
    ∃ A' c' w', (Builtin.append_ #[22, 22] 22 #[.slice (some ⟨W.heap.size, 0, none⟩) S.size (grownCap W S.size 0 5), .slice A b.length c]).run Tryd.prog (bytesWorld W 5 S) = .ok (.slice A' (S.size + b.length) c') w' ∧ S.size + b.length ≤ c' ∧
      Kd.C (Kd.int .u8) w' A' (S.size + b.length) (ints (S.data.toList ++ b)) ∧ Below W.heap.size W w' := by
  obtain ⟨i0, hi, hz0, hz1, hz2⟩ := info_parts info8
  have hcap := grownCap_ge W S.size 0 5
  have hB := conv_below W 5 S
  have hread : ∀ j, j < S.size → (bytesWorld W 5 S).cell? ⟨W.heap.size, j, none⟩ = some (.int .u8 ((S.data.toList.getD j 0).toNat : Int)) := fun j hj => bytesWorld_cell W _ S j hj
  have hlen : (S.data.toList ++ b).length = S.size + b.length := by rw [List.length_append, ← Lib.size_eq]
  by_cases hb : b = []
  · subst hb
    refine ⟨some ⟨W.heap.size, 0, none⟩, grownCap W S.size 0 5, bytesWorld W 5 S, ?_, hcap, ?_, hB⟩
    · cases A with
      | none => simp [Builtin.append_, run_underlying Tryd.underlying22, sizeOf, typeInfo, hi, Builtin.lenOf, Builtin.firstCells, hcap, storeCells]
      | some a =>
        have := run_append_room_cells (P := Tryd.prog) (bytesWorld W 5 S) 22 22 5 i0 Tryd.underlying22 hi W.heap.size 0 S.size (grownCap W S.size 0 5) a 0 c [] (by simp) (by simp) (by simp) (by simpa using hcap) (by simp) (by simp)
        exact this
    · have h2 := C_ints (W := bytesWorld W 5 S) (a := ⟨W.heap.size, 0, none⟩) (l := S.data.toList) (by rw [← Lib.size_eq]; simp at hl; omega) (fun j hj => by rw [add0]; exact hread j (by rw [Lib.size_eq]; exact hj))
      rw [← Lib.size_eq] at h2
      rw [List.append_nil]
      exact h2
  · have hbl : 0 < b.length := List.length_pos_iff.2 hb
    obtain ⟨a, rfl, hcs⟩ := (Kd.reads_of_C (d := (0 : Int)) (Kd.C_below hC hB)).2.2 hbl
    obtain ⟨news, hnews⟩ : ∃ news, encs (Value.int .u8) (ints b) = news := ⟨_, rfl⟩
    have hnl : news.length = b.length := by rw [← hnews, encs_length, ints_length]
    have hng : ∀ j u, news[j]? = some u → (bytesWorld W 5 S).cell? (a.add j) = some u := by
      intro j u hj
      have hjl : j < b.length := by have := (List.getElem?_eq_some_iff.1 hj).1; omega
      rw [hcs j hjl, ← hj, ← hnews]
      have hjl2 : j < (ints b).length := by rw [ints_length]; exact hjl
      simp [encs, List.getD_eq_getElem?_getD, List.getElem?_eq_getElem hjl2]
    have hone : ∀ u ∈ news, u.oneCell' = true := by
      intro u hu
      rw [← hnews] at hu
      obtain ⟨x, _, rfl⟩ := List.mem_map.1 hu
      rfl
    by_cases hroom : S.size + b.length ≤ grownCap W S.size 0 5
    · have hblk := bytesWorld_at_new W 5 S
      have hbs : (bytesCells W 5 S).size = grownCap W S.size 0 5 := by
        unfold bytesCells
        rw [Array.size_append, Array.size_map, Array.size_replicate]
        show S.size + _ = _
        omega
      have hcell : ∀ j, j < grownCap W S.size 0 5 → ((bytesWorld W 5 S).cell? ⟨W.heap.size, j, none⟩).isSome = true := by
        intro j hj
        rw [cellB hblk]
        rw [Array.getElem?_eq_getElem (by rw [hbs]; exact hj)]
        rfl
      have hfroz : ∀ j, j < grownCap W S.size 0 5 → (bytesWorld W 5 S).frozen? ⟨W.heap.size, j, none⟩ = false := by
        intro j hj
        unfold World.frozen?
        rw [show (bytesWorld W 5 S).heap[(⟨W.heap.size, j, none⟩ : Addr).block]? = _ from hblk]
        simp only [hbs]
        simp
        omega
      have hrun := run_append_room_cells (P := Tryd.prog) (bytesWorld W 5 S) 22 22 5 i0 Tryd.underlying22 hi W.heap.size 0 S.size (grownCap W S.size 0 5) a b.length c news (by rw [hz1]; omega) hng hone hroom (fun j hj => hcell _ (by rw [hz1]; omega)) (fun j hj => hfroz _ (by rw [hz1]; omega))
      rw [hz1, Nat.mul_one, Nat.zero_add] at hrun
      refine ⟨_, _, _, hrun, hroom, ?_, ?_⟩
      · have h2 := C_ints (W := (bytesWorld W 5 S).setCells W.heap.size S.size news) (a := ⟨W.heap.size, 0, none⟩) (l := S.data.toList ++ b) (by rw [hlen]; omega) (fun j hj => by
          rw [add0]
          rw [hlen] at hj
          by_cases hjs : j < S.size
          · rw [World.cell?_setCells_out W.heap.size news S.size _ ⟨W.heap.size, j, none⟩ (fun _ _ => .inl hjs), hread j hjs, List.getD_eq_getElem?_getD, List.getD_eq_getElem?_getD, List.getElem?_append_left (by rw [← Lib.size_eq]; exact hjs)]
          · have hj2 : j - S.size < news.length := by omega
            have := World.cell?_setCells_in W.heap.size news S.size (bytesWorld W 5 S) (fun i hi => hcell _ (by omega)) (j - S.size) hj2
            rw [show S.size + (j - S.size) = j by omega] at this
            rw [this]
            have hj3 : j - S.size < b.length := by omega
            subst hnews
            rw [List.getD_eq_getElem?_getD, List.getElem?_append_right (by rw [← Lib.size_eq]; omega), ← Lib.size_eq]
            simp [encs, ints, List.getElem?_eq_getElem hj3])
        rw [hlen] at h2
        exact h2
      · obtain ⟨e1, e2, e3, e4⟩ := setCells_same W.heap.size news S.size (bytesWorld W 5 S)
        exact ⟨e1.trans hB.os, e2.trans hB.tape, e3.trans hB.output, by rw [e4]; exact hB.size, fun i hi => (setCells_far news S.size i (by omega)).trans (hB.block i hi)⟩
    · obtain ⟨v', w', hrun, hown, hg⟩ := run_append_arg_grows (P := Tryd.prog) (bytesWorld W 5 S) 22 22 5 i0 (.int .u8 0) 1 1 Tryd.underlying22 hi hz0 hz1 hz2 rfl (by decide) ⟨W.heap.size, 0, none⟩ S.size (grownCap W S.size 0 5) (encs (Value.int .u8) (ints S.data.toList)) (by rw [encs_length, ints_length, ← Lib.size_eq, Nat.mul_one]) (fun j u hj => by
          rw [add0]
          have hjl : j < S.size := by have := (List.getElem?_eq_some_iff.1 hj).1; rw [encs_length, ints_length, ← Lib.size_eq] at this; exact this
          rw [hread j hjl, ← hj]
          have hjl2 : j < S.data.toList.length := by rw [← Lib.size_eq]; exact hjl
          simp [encs, ints, List.getD_eq_getElem?_getD, List.getElem?_eq_getElem hjl2]) a b.length c news (by omega) hng (by omega) (by unfold maxLen; omega) (by omega)
      have hR : OwnB w' (bytesWorld W 5 S).heap.size v' (ints (S.data.toList ++ b)) := by
        refine Kd.R_of_own (h1 := fun _ => rfl) ?_ (fun _ _ => trivial)
        rw [ints_length, hlen, ints_append]
        unfold encs
        rw [List.map_append]
        rw [← hnews] at hown
        exact hown
      obtain ⟨A', c', rfl, hlc, hC'⟩ := Kd.R_reads hR
      rw [ints_length, hlen] at hlc hC' hrun
      exact ⟨A', c', w', hrun, hlc, hC', below_step hB ((Below.refl _ _).grown hg (Nat.le_refl _) (fun j e => by cases e))⟩
set_option maxHeartbeats 4000000 in
set_option maxRecDepth 100000 in
theorem RefEncode_long (A : Option Addr) (c : Nat) (b : List UInt8) (w : World) (hl : 65536 < b.length) :
    Calls Tryd.prog 12 #[.slice A b.length c] w fun e w' => e = .returned (.tuple #[.slice none 0 0, .int .i64 31]) ∧ w' = w := by
  have h1 : (65536 : Int) < (b.length : Int) := by omega
  clear hl
  go_enter Tryd.func12, Tryd.ntmps12
  go_wp2_with (fail)
  go_ret2
  exact ⟨rfl, rfl⟩
set_option maxHeartbeats 4000000 in
set_option maxRecDepth 100000 in
theorem RefEncode_calls (A : Option Addr) (c : Nat) (b : List UInt8) (w : World) (hC : Kd.C (Kd.int .u8) w A b.length (ints b)) (hl : b.length ≤ 65536) :
    Calls Tryd.prog 12 #[.slice A b.length c] w fun e w' => ∃ A' c', e = .returned (.tuple #[.slice A' (encL b).length c', .int .i64 0]) ∧ (encL b).length ≤ c' ∧ Kd.C (Kd.int .u8) w' A' (encL b).length (ints (encL b)) ∧ Below w.heap.size w w' := by
  have h1 : ¬ (65536 : Int) < (b.length : Int) := by omega
  have HI := Aside0.mk (Show_calls b.length w (by omega))
  have HC := Aside0.mk hC
  have Hl := Aside0.mk hl
  obtain ⟨I, hI⟩ : ∃ I : ByteArray, ofL (itoa (b.length : Int)) = I := ⟨_, rfl⟩
  have hId : I.data.toList = itoa (b.length : Int) := by rw [← hI]; rfl
  rw [hI] at HI
  have HId := Aside0.mk hId
  have hIs : I.size ≤ 21 := by rw [Lib.size_eq, hId]; exact itoa_length_le _ (by omega) (by omega)
  clear hI hId hC hl
  obtain ⟨S, hS⟩ : ∃ S : ByteArray, (⟨#[67, 111, 110, 116, 101, 110, 116, 45, 76, 101, 110, 103, 116, 104, 58, 32]⟩ : ByteArray) ++ I ++ ⟨#[13, 10, 13, 10]⟩ = S := ⟨_, rfl⟩
  have hSd : S.data.toList = headOfLen b.length := by
    rw [← hS, ByteArray.data_append, ByteArray.data_append, Array.toList_append, Array.toList_append, HId.out]
    rfl
  have hSz : S.size = 16 + I.size + 4 := by
    rw [← hS, ByteArray.size_append, ByteArray.size_append]
    rfl
  have HCA := Aside0.mk (fun (W : World) (hb : Below w.heap.size w W) => conv_append W S b A c (Kd.C_below HC.out hb) (by have := Hl.out; omega))
  rw [hSd] at HCA
  have HEL := Aside0.mk (show S.size + b.length = (encL b).length by unfold encL; rw [List.length_append, ← hSd, ← Lib.size_eq])
  have hS63 : S.size ≤ 1000 := by omega
  clear hSz hSd
  have hconv := fun (W : World) (s : ByteArray) => Lib.run_convert_string_bytes (P := Tryd.prog) W 9 22 5 s Tryd.underlying9 Tryd.underlying22 Tryd.underlying5
  go_enter Tryd.func12, Tryd.ntmps12
  go_wp2_with (first | (go_at_call 20; refine HI.out.mono ?_; rintro e w1 ⟨rfl, hb⟩; have HB1 := Aside0.mk hb; obtain ⟨A', c', w', hrun, hlc, hC', hB'⟩ := HCA.out w1 hb; have HRUN := Aside0.mk hrun; have H5 := Aside0.mk (And.intro hlc (And.intro hC' hB')); clear hb hrun hlc hC' hB') | (at_builtin; refine Lib.wpList_append_run _ rfl _ _ _ _ rfl _ _ rfl rfl _ _ HRUN.out ?_))
  go_ret2
  obtain ⟨hlc, hC', hB'⟩ := H5.out
  rw [HEL.out] at hlc hC'
  exact ⟨A', c', by rw [← HEL.out]; rfl, hlc, hC', below_step HB1.out hB'⟩
end Go.Proofs.YtomebmjjgkcjiaaDoor.G
