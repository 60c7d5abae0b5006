/-
  frame.New and the laws' first question: their contracts.
-/
import Derived.Test.YtomebmjjgkcjiaaGreatDoorFrameEnc
import Derived.Test.YtomebmjjgkcjiaaGreatDoorPUtx
set_option linter.unusedVariables false
namespace Go.Proofs.YtomebmjjgkcjiaaGreatDoor.G
open Go.RowKit Go.Proofs.YtomebmjjgkcjiaaGreatDoorW.PrintWords Go.Lib
theorem New_calls (w : World) : Calls Tryz.prog 6 #[] w fun e w' => e = .returned (.pointer (some ⟨w.heap.size, 0, none⟩)) ∧ w' = w.alloc (.cells #[.slice none 0 0, .int .i64 0] 42) := by
  go_enter Tryz.func6, Tryz.ntmps6
  go_wp2
  go_ret
  exact ⟨rfl, rfl⟩
theorem New_dec (w : World) : DecAt (w.alloc (.cells #[.slice none 0 0, .int .i64 0] 42)) w.heap.size [] 0 none 0 :=
  ⟨World.alloc_heap_new w _, Kd.C_nil _ _, Nat.le_refl _, by decide, (fun a e => nomatch e)⟩
def P1 : List UInt8 := [99, 111, 110, 116, 101, 110, 116, 45, 76, 69, 78, 71, 84, 72, 58, 50, 32, 13, 10, 88, 58, 32, 121, 13, 10, 13, 10, 97]
set_option maxRecDepth 100000 in
theorem feed1 : feedL P1 = ([], P1, 0) := by decide
set_option maxRecDepth 100000 in
theorem feed2 : feedL (P1 ++ [98]) = ([[97, 98]], [], 0) := by decide
theorem enc2 : encL [97, 98] = [67, 111, 110, 116, 101, 110, 116, 45, 76, 101, 110, 103, 116, 104, 58, 32, 50, 13, 10, 13, 10, 97, 98] := by
  unfold encL headOfLen itoa
  rw [if_neg (by decide), decDigits]
  rfl
theorem C_lit (W : World) (C : Array Value) (l : List UInt8) (fr : Nat × Nat) (hC : C.toList = l.map fun b => Value.int .u8 b.toNat) (hl : l.length ≤ 9223372036854775807) : Kd.C (Kd.int .u8) (W.alloc (.cells C 5 fr)) (some ⟨W.heap.size, 0, none⟩) l.length (ints l) := by
  refine C_ints hl (fun j hj => ?_)
  rw [add0, World.cell?_alloc_mark, ← Array.getElem?_toList, hC, List.getElem?_map, List.getElem?_eq_getElem hj]
  simp [List.getD_eq_getElem?_getD, List.getElem?_eq_getElem hj]
theorem same1 : PUt.parlanceref00_SameRows.f 10 [[97, 98]] [[97, 98]] = some true := by kernel_rfl
theorem C_row1 (W : World) (g : Nat) (A : Option Addr) (c : Nat) (l : List UInt8) (hc : W.cell? ⟨g, 0, none⟩ = some (.slice A l.length c)) (hl : l.length ≤ c) (hC : Kd.C (Kd.int .u8) W A l.length (ints l)) : Kd.C (Kd.slice 5 (Kd.int .u8)) W (some ⟨g, 0, none⟩) 1 [ints l] := by
  refine ⟨rfl, by decide, fun _ => ⟨_, rfl, fun j p hj => ?_⟩⟩
  match j, hj with
  | 0, hj =>
    simp only [List.getElem?_cons_zero, Option.some.injEq] at hj
    subst hj
    refine ⟨[.slice A l.length c], rfl, ⟨A, c, by rw [ints_length], by rw [ints_length]; exact hl, by rw [ints_length]; exact hC⟩, fun i u hu => ?_⟩
    match i, hu with
    | 0, hu =>
      simp only [List.getElem?_cons_zero, Option.some.injEq] at hu
      subst hu
      simpa [Addr.add] using hc
    | i + 1, hu => simp at hu
  | j + 1, hj => simp at hj
set_option maxHeartbeats 4000000 in
set_option maxRecDepth 100000 in
theorem Alive_calls (w : World) (hT : TF w) : Calls Tryz.prog 4 #[] w fun e w' => e = .returned (.bool true) ∧ Below w.heap.size w w' := by
  have hcv := fun (W : World) (C : Array Value) (n c : Nat) => Lib.run_convert_bytes_const (P := Tryz.prog) W 27 5 C n c Tryz.underlying27 Tryz.underlying5
  have HT := Aside0.mk hT
  clear hT
  have HD0 := Aside0.mk (New_dec w)
  have HB0 := Aside0.mk (below_alloc (Below.refl w.heap.size w) (.cells #[.slice none 0 0, .int .i64 0] 42))
  have Hsz0 := Aside0.mk (show (w.alloc (.cells #[.slice none 0 0, .int .i64 0] 42)).heap.size = w.heap.size + 1 by simp)
  go_enter Tryz.func4, Tryz.ntmps4
  go_wp2_with (go_at_call 6; refine (New_calls w).mono ?_; rintro e w1 ⟨rfl, hw1⟩; rw [← hw1] at HD0 HB0 Hsz0; clear hw1)
  refine (Feed_calls w.heap.size [] P1 none (some ⟨w1.heap.size, 0, none⟩) 0 28 w _ HT.out (below_alloc HB0.out _) (Nat.le_refl _) (HD0.out.below (below_alloc (Below.refl _ _) _)) (C_lit w1 _ P1 _ rfl (by decide)) (by decide) (by decide)).mono ?_
  rintro e w2 ⟨v2, A2, c2, he, hO2, hD2, hA2, hK2⟩
  rw [List.nil_append, feed1] at he hO2 hD2
  subst he
  obtain ⟨Aa, ca, rfl, _, _⟩ := Kd.R_reads hO2
  have HB2 := Aside0.mk (show Below w.heap.size w w2 from (below_alloc HB0.out _).trans (hK2.below (by rw [World.size_alloc]; have := HB0.out.size; omega) (fun k hk e => by omega)))
  have HD2 := Aside0.mk hD2
  clear hO2 hD2 hA2 hK2 HD0 HB0 Hsz0
  simp only [List.map_nil, List.length_nil]
  go_wp2_with (fail)
  refine (Feed_calls w.heap.size P1 [98] A2 (some ⟨w2.heap.size, 0, none⟩) c2 1 w _ HT.out (below_alloc HB2.out _) (Nat.le_refl _) (HD2.out.below (below_alloc (Below.refl _ _) _)) (C_lit w2 _ [98] _ rfl (by decide)) (by decide) (by decide)).mono ?_
  rintro e w3 ⟨v3, A3, c3, he, hO3, hD3, hA3, hK3⟩
  rw [feed2] at he hO3 hD3
  subst he
  obtain ⟨Ab, cb, rfl, hlb, hCb⟩ := Kd.R_reads hO3
  have HB3 := Aside0.mk (show Below w.heap.size w w3 from (below_alloc HB2.out _).trans (hK3.below (by rw [World.size_alloc]; have := HB2.out.size; omega) (fun k hk e => by omega)))
  have HC3 := Aside0.mk (And.intro hlb hCb)
  clear hO3 hD3 hA3 hK3 HD2 HB2 hlb hCb
  simp only [List.map_cons, List.map_nil, List.length_cons, List.length_nil] at HC3 ⊢
  go_wp2_with (fail)
  refine (Encode_calls (some ⟨w3.heap.size, 0, none⟩) 2 [97, 98] _ (TF_below HT.out (below_alloc HB3.out _)) (C_lit w3 _ [97, 98] _ rfl (by decide)) (by decide) (by decide)).mono ?_
  rintro e w4 ⟨A4, c4, rfl, hO4, hB4⟩
  obtain ⟨A4', c4', e4, _, hC4⟩ := (Kd.R_reads hO4)
  simp only [Value.slice.injEq] at e4
  obtain ⟨rfl, _, rfl⟩ := e4
  rw [ints_length] at hC4
  have hB34 : Below w3.heap.size w3 w4 := below_step (below_alloc (Below.refl _ _) _) hB4
  have hEq : ((ofL (encL [97, 98])).toList == [67, 111, 110, 116, 101, 110, 116, 45, 76, 101, 110, 103, 116, 104, 58, 32, 50, 13, 10, 13, 10, 97, 98]) = true := by
    rw [Lib.toList_data, ofL_data, enc2]
    rfl
  have hpos : 0 < (encL [97, 98]).length := by rw [enc2]; decide
  have HCV := Aside0.mk (show ∀ (W : World) (_ : Below w4.heap.size w4 W) (cap : Nat), (convert 27 9 (.slice A4 (ints (encL [97, 98])).length cap)).run Tryz.prog W = .ok (.string (ofL (encL [97, 98]))) W from fun W hb cap => by
    rw [ints_length]
    exact conv_ints (P := Tryz.prog) (Kd.C_below hC4 hb) hpos Tryz.underlying27 Tryz.underlying5 Tryz.underlying9 cap)
  have HB4 := Aside0.mk (And.intro hB34 (below_step HB3.out hB34))
  have hsm : PUt.parlanceref00_SameRows.f 10 [ints [97, 98]] [ints [97, 98]] = some true := same1
  have HSM := Aside0.mk hsm
  clear hO4 hB4 hC4 hB34 hpos hsm
  generalize encL [97, 98] = S at *
  go_wp2_with (fail)
  have hcell : ((w4.alloc (.cells #[.int .u8 97, .int .u8 98] 5 (2, 3))).alloc (.cells #[.slice (some ⟨w4.heap.size, 0, none⟩) 2 2] 27)).cell? ⟨w4.heap.size + 1, 0, none⟩ = some (.slice (some ⟨w4.heap.size, 0, none⟩) ([97, 98] : List UInt8).length 2) := by
    have := World.cell?_alloc_mark (w4.alloc (.cells #[.int .u8 97, .int .u8 98] 5 (2, 3))) #[.slice (some ⟨w4.heap.size, 0, none⟩) 2 2] 27 (0, 0) 0
    rw [World.size_alloc] at this
    exact this
  have hb6 := below_alloc (below_alloc (Below.refl w4.heap.size w4) (.cells #[.int .u8 97, .int .u8 98] 5 (2, 3))) (.cells #[.slice (some ⟨w4.heap.size, 0, none⟩) 2 2] 27)
  refine (PUt.parlanceref00_SameRows.calls 10 Ab cb [ints [97, 98]] (some ⟨w4.heap.size + 1, 0, none⟩) 1 [ints [97, 98]] true _ (Kd.C_below HC3.out.2 (below_step HB4.out.1 hb6)) HC3.out.1 (C_row1 _ _ _ _ [97, 98] hcell (by decide) (Kd.C_below (C_lit w4 _ [97, 98] (2, 3) rfl (by decide)) (below_alloc (Below.refl _ _) _))) (Nat.le_refl _) HSM.out).mono ?_
  rintro e w7 ⟨rfl, hd7⟩
  have hb7 := below_step hb6 hd7.below
  have hcv7 := HCV.out w7 hb7
  have HB7 := Aside0.mk (below_step HB4.out.2 hb7)
  clear hcell hb6 hd7 hb7
  go_wp2_with (fail)
  go_ret
  exact ⟨rfl, HB7.out⟩
end Go.Proofs.YtomebmjjgkcjiaaGreatDoor.G
