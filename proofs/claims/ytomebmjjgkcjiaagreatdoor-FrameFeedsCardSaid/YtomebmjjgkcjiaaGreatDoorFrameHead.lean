/-
  frame.head: its contract.
-/
import Derived.Test.YtomebmjjgkcjiaaGreatDoorFrameCat
import Derived.Lib.SlBytesConst
import Derived.Lib.SmallJoins
set_option linter.unusedVariables false
namespace Go.Proofs.YtomebmjjgkcjiaaGreatDoor.G
open Go.RowKit Go.Proofs.YtomebmjjgkcjiaaGreatDoorW.PrintWords Go.Lib
/-- Bytes as the cells' numbers. -/
def ints (l : List UInt8) : List Int := l.map fun b => (b.toNat : Int)
theorem ints_length (l : List UInt8) : (ints l).length = l.length := List.length_map ..
theorem ints_take (l : List UInt8) (n : Nat) : ints (l.take n) = (ints l).take n := List.map_take ..
theorem ints_drop (l : List UInt8) (n : Nat) : ints (l.drop n) = (ints l).drop n := List.map_drop ..
theorem ints_append (l m : List UInt8) : ints (l ++ m) = ints l ++ ints m := List.map_append ..
theorem bytes_ints (l : List UInt8) : Lib.bytesOf (ints l) = l := by
  unfold Lib.bytesOf ints
  rw [List.map_map]
  conv => rhs; rw [← List.map_id l]
  apply List.map_congr_left
  intro b _
  simp
theorem ints_range (l : List UInt8) : ∀ x ∈ ints l, 0 ≤ x ∧ x < 256 := by
  intro x hx
  unfold ints at hx
  obtain ⟨b, _, rfl⟩ := List.mem_map.1 hx
  have := UInt8.toNat_lt b
  omega
def ends : List UInt8 := [13, 10, 13, 10]
/-- How many bytes a head has, and the error. -/
def headN (f : List UInt8) : Int := if hasPrefix f crlf then 2 else if 0 ≤ index f ends then index f ends + 4 else 0
def headOf (l : List UInt8) : Int × Int :=
  if headN (l.take 1024) = 0 ∧ 1024 ≤ l.length then (0, 30) else (headN (l.take 1024), 0)
theorem C_ints {W : World} {a : Addr} {l : List UInt8} (hl : l.length ≤ 9223372036854775807) (h : ∀ j, j < l.length → W.cell? (a.add j) = some (.int .u8 ((l.getD j 0).toNat : Int))) : Kd.C (Kd.int .u8) W (some a) l.length (ints l) := by
  refine Kd.C_of_reads (d := (0 : Int)) (h1 := fun _ => rfl) ⟨ints_length l, hl, fun _ => ⟨a, rfl, fun j hj => ?_⟩⟩
  rw [h j hj]
  simp [ints, List.getD_eq_getElem?_getD, List.getElem?_map, List.getElem?_eq_getElem hj]
theorem add0 (g j : Nat) : (Addr.add ⟨g, 0, none⟩ j) = ⟨g, j, none⟩ := by
  unfold Addr.add
  split
  · rename_i h; rw [h]
  · simp
theorem C_crlf (W : World) (fr : Nat × Nat) : Kd.C (Kd.int .u8) (W.alloc (.cells #[.int .u8 13, .int .u8 10] 5 fr)) (some ⟨W.heap.size, 0, none⟩) 2 (ints crlf) := by
  refine C_ints (l := crlf) (by decide) (fun j hj => ?_)
  rw [add0, World.cell?_alloc_mark]
  match j, hj with
  | 0, _ => rfl
  | 1, _ => rfl
theorem C_ends (W : World) (fr : Nat × Nat) : Kd.C (Kd.int .u8) (W.alloc (.cells #[.int .u8 13, .int .u8 10, .int .u8 13, .int .u8 10] 5 fr)) (some ⟨W.heap.size, 0, none⟩) 4 (ints ends) := by
  refine C_ints (l := ends) (by decide) (fun j hj => ?_)
  rw [add0, World.cell?_alloc_mark]
  match j, hj with
  | 0, _ => rfl
  | 1, _ => rfl
  | 2, _ => rfl
  | 3, _ => rfl
theorem HasPrefix_calls (A0 A1 : Option Addr) (c0 c1 : Nat) (l0 l1 : List UInt8) (w : World) (hr0 : Kd.C (Kd.int .u8) w A0 l0.length (ints l0)) (hc0 : l0.length ≤ c0) (hr1 : Kd.C (Kd.int .u8) w A1 l1.length (ints l1)) (hc1 : l1.length ≤ c1) :
    Calls Tryz.prog 27 #[.slice A0 l0.length c0, .slice A1 l1.length c1] w fun e w' => e = .returned (.bool (hasPrefix l0 l1)) ∧ w' = w := by
  have := Any.bytes_HasPrefix_all Tryz.lays116 A0 A1 l0.length c0 l1.length c1 (ints l0) (ints l1) w (ints_length _) (ints_length _) hc0 (bytesIn_of_C hr0) (bytesIn_of_C hr1)
  rw [bytes_ints, bytes_ints] at this
  exact this
theorem Index_calls (A0 A1 : Option Addr) (c0 c1 : Nat) (l0 l1 : List UInt8) (w : World) (hT : TF w) (hr0 : Kd.C (Kd.int .u8) w A0 l0.length (ints l0)) (hc0 : l0.length ≤ c0) (hr1 : Kd.C (Kd.int .u8) w A1 l1.length (ints l1)) (hc1 : l1.length ≤ c1) (h0 : l0.length < 4294967281) (h1 : 2 ≤ l1.length) (h2 : l1.length ≤ 1000) :
    Calls Tryz.prog 28 #[.slice A0 l0.length c0, .slice A1 l1.length c1] w fun e w' => e = .returned (.int .i64 (index l0 l1)) ∧ Below w.heap.size w w' := by
  have := GIndex.calls A0 c0 (ints l0) A1 c1 (ints l1) (index l0 l1) w (by rw [ints_length]; exact hr0) (by rw [ints_length]; exact hc0) (by rw [ints_length]; exact hr1) (by rw [ints_length]; exact hc1) hT (by
    unfold GIndex.f
    rw [if_pos ⟨by rw [ints_length]; exact h0, by rw [ints_length]; exact h1, by rw [ints_length]; exact h2, ints_range _, ints_range _⟩, bytes_ints, bytes_ints])
  rw [ints_length, ints_length] at this
  exact this
set_option maxHeartbeats 2000000 in
set_option maxRecDepth 100000 in
theorem Head_calls (A : Option Addr) (c : Nat) (l : List UInt8) (w : World) (hT : TF w) (hC : Kd.C (Kd.int .u8) w A l.length (ints l)) (hc : l.length ≤ c) (hl : l.length < 4294967281) (hcb : c ≤ 9223372036854775807) :
    Calls Tryz.prog 22 #[.slice A l.length c] w fun e w' => e = .returned (.tuple #[.int .i64 (headOf l).1, .int .i64 (headOf l).2]) ∧ Below w.heap.size w w' := by
  have hcv := fun (W : World) (C : Array Value) (n c : Nat) => Lib.run_convert_bytes_const (P := Tryz.prog) W 27 5 C n c Tryz.underlying27 Tryz.underlying5
  have hcv2 : ∀ (fr : Nat × Nat) (C0 C : Array Value) (n c : Nat), (convert 27 27 (.slice (some ⟨w.heap.size + 1, 0, none⟩) n c)).run Tryz.prog ((w.alloc (.cells C0 5 fr)).alloc (.cells C 5)) = .ok (.slice (some ⟨w.heap.size + 1, 0, none⟩) n c) ((w.alloc (.cells C0 5 fr)).alloc (.cells C 5 (C.size, C.size + 1))) := by
    intro fr C0 C n c
    have := hcv (w.alloc (.cells C0 5 fr)) C n c
    rw [World.size_alloc] at this
    exact this
  have HCE := Aside0.mk (fun (fr fr2 : Nat × Nat) (C0 : Array Value) => (show Kd.C (Kd.int .u8) ((w.alloc (.cells C0 5 fr)).alloc (.cells #[.int .u8 13, .int .u8 10, .int .u8 13, .int .u8 10] 5 fr2)) (some ⟨w.heap.size + 1, 0, none⟩) 4 (ints ends) from by
    have := C_ends (w.alloc (.cells C0 5 fr)) fr2
    rw [World.size_alloc] at this
    exact this))
  obtain ⟨F, hF⟩ : ∃ F, l.take 1024 = F := ⟨_, rfl⟩
  have hFl : F.length = min 1024 l.length := by rw [← hF, List.length_take]
  have hmin : (min (l.length : Int) 1024).toNat = F.length := by rw [hFl]; omega
  have HCF := Aside0.mk (show Kd.C (Kd.int .u8) w A F.length (ints F) by
    have := Kd.C_take (m := F.length) (by rw [ints_length]; exact hC) (by rw [ints_length]; omega)
    have e : (ints l).take F.length = ints F := by rw [← ints_take, ← hF, List.length_take, ← List.take_eq_take_min]
    rw [e, ints_length] at this
    exact this)
  have HT := Aside0.mk hT
  have HFc := Aside0.mk (show F.length ≤ c ∧ F.length ≤ 1024 by omega)
  have hm0 : (0 : Int) ≤ min (l.length : Int) 1024 := by omega
  have hm1 : min (l.length : Int) 1024 ≤ (c : Int) := by omega
  unfold headOf
  rw [hF]
  have h1024 : (1024 ≤ l.length) = (F.length = 1024) := propext (by omega)
  simp only [h1024]
  clear hC hT hF hFl h1024
  obtain ⟨R, hR⟩ : ∃ R : Int × Int, (if headN F = 0 ∧ F.length = 1024 then (0, 30) else (headN F, 0)) = R := ⟨_, rfl⟩
  rw [hR]
  have HR := Aside0.mk hR
  clear hR
  unfold headN at HR
  cases hp : hasPrefix F crlf with
  | true =>
    rw [hp] at HR
    simp only [if_true] at HR
    rw [if_neg (by rintro ⟨h, _⟩; cases h)] at HR
    go_enter Tryz.func22, Tryz.ntmps22
    go_wp2_with (go_at_call 27; refine (HasPrefix_calls A (some _) c 2 F crlf _ (Kd.C_below HCF.out (below_alloc (Below.refl _ _) _)) HFc.out.1 (C_crlf _ _) (Nat.le_refl _)).mono ?_; rw [hp]; rintro e w1 ⟨rfl, rfl⟩)
    go_ret2
    rw [← HR.out]
    exact ⟨rfl, below_alloc (Below.refl _ _) _⟩
  | false =>
    rw [hp] at HR
    simp only [Bool.false_eq_true, if_false] at HR
    have HIX := Aside0.mk (index_le F ends)
    have hB0 := Aside0.mk (below_alloc (below_alloc (Below.refl w.heap.size w) (.cells #[.int .u8 13, .int .u8 10] 5 (2, 3))) (.cells #[.int .u8 13, .int .u8 10, .int .u8 13, .int .u8 10] 5 (4, 5)))
    have HIG := Aside0.mk (index_ge F ends)
    obtain ⟨ix, hix⟩ : ∃ ix, index F ends = ix := ⟨_, rfl⟩
    rw [hix] at HR HIX HIG
    have HIE := Aside0.mk hix
    clear hix
    by_cases hi : 0 ≤ ix
    · rw [if_pos hi, if_neg (by rintro ⟨h, _⟩; omega)] at HR
      have hw4 : wrap64 (ix + 4) = ix + 4 := by have := HIX.out; have := HFc.out; unfold wrap64; omega
      have hn4 : ((ix + 4 : Int) == 0) = false := by simp; omega
      have hn5 : ¬ (ix + 4 = 0) := by omega
      go_enter Tryz.func22, Tryz.ntmps22
      go_wp2_with (first | (go_at_call 27; refine (HasPrefix_calls A (some _) c 2 F crlf _ (Kd.C_below HCF.out (below_alloc (Below.refl _ _) _)) HFc.out.1 (C_crlf _ _) (Nat.le_refl _)).mono ?_; rw [hp]; rintro e w1 ⟨rfl, rfl⟩) | (go_at_call 28; refine (Index_calls A (some _) c 4 F ends _ (TF_below HT.out (below_alloc (below_alloc (Below.refl _ _) _) _)) (Kd.C_below HCF.out (below_alloc (below_alloc (Below.refl _ _) _) _)) HFc.out.1 (HCE.out _ _ _) (Nat.le_refl _) (by have := HFc.out.2; omega) (by decide) (by decide)).mono ?_; rw [HIE.out]; rintro e w2 ⟨rfl, hb⟩; have HB := Aside0.mk hb; clear hb))
      go_ret2
      rw [← HR.out]
      refine ⟨?_, below_step hB0.out HB.out⟩
      first | rfl | (show Ending.returned (.tuple #[.int .i64 (wrap64 (ix + 4)), .int .i64 0]) = _; rw [hw4])
    · rw [if_neg hi] at HR
      by_cases h24 : F.length = 1024
      · rw [if_pos ⟨rfl, h24⟩] at HR
        have h25 : ((F.length : Int) == 1024) = true := by simp; omega
        clear h24
        go_enter Tryz.func22, Tryz.ntmps22
        go_wp2_with (first | (go_at_call 27; refine (HasPrefix_calls A (some _) c 2 F crlf _ (Kd.C_below HCF.out (below_alloc (Below.refl _ _) _)) HFc.out.1 (C_crlf _ _) (Nat.le_refl _)).mono ?_; rw [hp]; rintro e w1 ⟨rfl, rfl⟩) | (go_at_call 28; refine (Index_calls A (some _) c 4 F ends _ (TF_below HT.out (below_alloc (below_alloc (Below.refl _ _) _) _)) (Kd.C_below HCF.out (below_alloc (below_alloc (Below.refl _ _) _) _)) HFc.out.1 (HCE.out _ _ _) (Nat.le_refl _) (by have := HFc.out.2; omega) (by decide) (by decide)).mono ?_; rw [HIE.out]; rintro e w2 ⟨rfl, hb⟩; have HB := Aside0.mk hb; clear hb))
        go_ret2
        rw [← HR.out]
        exact ⟨rfl, below_step hB0.out HB.out⟩
      · rw [if_neg (by rintro ⟨_, h⟩; exact h24 h)] at HR
        have h25 : ((F.length : Int) == 1024) = false := by simp; omega
        clear h24
        go_enter Tryz.func22, Tryz.ntmps22
        go_wp2_with (first | (go_at_call 27; refine (HasPrefix_calls A (some _) c 2 F crlf _ (Kd.C_below HCF.out (below_alloc (Below.refl _ _) _)) HFc.out.1 (C_crlf _ _) (Nat.le_refl _)).mono ?_; rw [hp]; rintro e w1 ⟨rfl, rfl⟩) | (go_at_call 28; refine (Index_calls A (some _) c 4 F ends _ (TF_below HT.out (below_alloc (below_alloc (Below.refl _ _) _) _)) (Kd.C_below HCF.out (below_alloc (below_alloc (Below.refl _ _) _) _)) HFc.out.1 (HCE.out _ _ _) (Nat.le_refl _) (by have := HFc.out.2; omega) (by decide) (by decide)).mono ?_; rw [HIE.out]; rintro e w2 ⟨rfl, hb⟩; have HB := Aside0.mk hb; clear hb))
        go_ret2
        rw [← HR.out]
        exact ⟨rfl, below_step hB0.out HB.out⟩
end Go.Proofs.YtomebmjjgkcjiaaGreatDoor.G
