/-
  The library's functions that package frame calls, by the shelf's contracts, in the printer's words.
-/
import Derived.Test.YtomebmjjgkcjiaaGreatDoorProg
import Derived.Test.YtomebmjjgkcjiaaGreatDoorShelf
import Derived.Test.YtomebmjjgkcjiaaGreatDoorConvEv
import Derived.Test.YtomebmjjgkcjiaaGreatDoorWWords
import Derived.Lib.AppendIntMem
import Derived.Shelf.Unicode.PredsPay
import Derived.Lib.MapLaws
import Derived.WalkKit
import Derived.Deep.LoopGhost
import Derived.Outline
set_option linter.unusedVariables false
namespace Go.Proofs.YtomebmjjgkcjiaaGreatDoor.G
open Go.RowKit Go.Proofs.YtomebmjjgkcjiaaGreatDoorW.PrintWords Go.Lib
/-- What the walks read of package-level variables. -/
def TF (w : World) : Prop := (∃ m, w.cell? ⟨0, 0, none⟩ = some (.int .i64 m)) ∧ Lib.TabIs Tryz.prog w "internal/strconv.uint64pow10" .u64 Lib.pow10Tab
theorem nPow : Tryz.prog.globalNamed "internal/strconv.uint64pow10" = some 1 := by kernel_rfl
theorem TF_below {w0 w : World} (h : TF w0) (hb : Below w0.heap.size w0 w) : TF w := by
  obtain ⟨⟨m, hm⟩, ht⟩ := h
  exact ⟨⟨m, (hb.cell (World.block_lt_of_cell? w0 _ hm)).trans hm⟩, TabIs_below nPow ht hb⟩
theorem toB (s : ByteArray) : s = ⟨s.data.toList.toArray⟩ := rfl
def GCut.f (a0 a1 : ByteArray) : Option (ByteArray × ByteArray × Bool) := if a0.size < 4294967281 then some (⟨(Lib.cut a0.data.toList a1.data.toList).1.toArray⟩, ⟨(Lib.cut a0.data.toList a1.data.toList).2.1.toArray⟩, (Lib.cut a0.data.toList a1.data.toList).2.2) else none
theorem GCut.calls (a0 a1 : ByteArray) (r1 r2 : ByteArray) (r3 : Bool) (w : World) (hT : TF w) (h : GCut.f a0 a1 = some (r1, r2, r3)) :
    Calls Tryz.prog 42 #[.string a0, .string a1] w fun e w' => e = .returned (.tuple #[.string r1, .string r2, .bool r3]) ∧ Below w.heap.size w w' := by
  unfold GCut.f at h
  split at h
  case isFalse => cases h
  case isTrue hs =>
    simp only [Option.some.injEq, Prod.mk.injEq] at h
    obtain ⟨rfl, rfl, rfl⟩ := h
    obtain ⟨m, hm⟩ := hT.1
    refine (Any.strings_Cut Tryz.lays145 a0 a1 m w hs hm).mono ?_
    rintro e w' ⟨rfl, n, rfl⟩
    exact ⟨rfl, pw_below_drewN (Below.refl _ _) n⟩
def GTrim.f (a0 a1 : ByteArray) : Option ByteArray := if a0.size ≤ 9223372036854775807 ∧ a1.size < 4294967281 ∧ a1.data.toList.all (fun b => decide (b.toNat < 128)) = true then some ⟨(Lib.trimS a0.data.toList a1.data.toList).toArray⟩ else none
theorem GTrim.calls (a0 a1 : ByteArray) (r : ByteArray) (w : World) (h : GTrim.f a0 a1 = some r) :
    Calls Tryz.prog 44 #[.string a0, .string a1] w fun e w' => e = .returned (.string r) ∧ Below w.heap.size w w' := by
  unfold GTrim.f at h
  split at h
  case isFalse => cases h
  case isTrue hs =>
    obtain rfl := Option.some.inj h
    exact Any.strings_Trim_laid Tryz.lays160 (by kernel_rfl) a0 a1 w hs.1 hs.2.1 (ascii_of_all hs.2.2)
def GTrimSuffix.f (a0 a1 : ByteArray) : Option ByteArray := if a0.size ≤ 9223372036854775807 then some ⟨(Lib.trimSuffix a0.data.toList a1.data.toList).toArray⟩ else none
theorem GTrimSuffix.calls (a0 a1 : ByteArray) (r : ByteArray) (w : World) (h : GTrimSuffix.f a0 a1 = some r) :
    Calls Tryz.prog 30 #[.string a0, .string a1] w fun e w' => e = .returned (.string r) ∧ Drawn0 w w' := by
  unfold GTrimSuffix.f at h
  split at h
  case isFalse => cases h
  case isTrue hs =>
    obtain rfl := Option.some.inj h
    refine (Any.strings_TrimSuffix Tryz.lays102 a0 a1 w hs).mono ?_
    rintro e w' ⟨rfl, rfl⟩
    exact ⟨rfl, Drawn0.refl _⟩
theorem bytesIn_of_C {w : World} {A : Option Addr} {n : Nat} {l : List Int} (h : Kd.C (Kd.int .u8) w A n l) : Lib.BytesIn w A n l := by
  intro hn
  obtain ⟨ad, rfl, hcell⟩ := (Kd.reads_of_C (d := (0 : Int)) h).2.2 hn
  exact (Lib.BytesIn.of_cells hcell) hn
def GHasPrefix.f (l0 l1 : List Int) : Option Bool := some (Lib.hasPrefix (Lib.bytesOf l0) (Lib.bytesOf l1))
theorem GHasPrefix.calls (A0 : Option Addr) (c0 : Nat) (l0 : List Int) (A1 : Option Addr) (c1 : Nat) (l1 : List Int) (r : Bool) (w : World) (hr0 : Kd.C (Kd.int .u8) w A0 l0.length l0) (hc0 : l0.length ≤ c0) (hr1 : Kd.C (Kd.int .u8) w A1 l1.length l1) (hc1 : l1.length ≤ c1) (h : GHasPrefix.f l0 l1 = some r) :
    Calls Tryz.prog 27 #[.slice A0 l0.length c0, .slice A1 l1.length c1] w fun e w' => e = .returned (.bool r) ∧ Drawn0 w w' := by
  obtain rfl := Option.some.inj h
  refine (Any.bytes_HasPrefix_all Tryz.lays116 A0 A1 l0.length c0 l1.length c1 l0 l1 w rfl rfl hc0 (bytesIn_of_C hr0) (bytesIn_of_C hr1)).mono ?_
  rintro e w' ⟨rfl, rfl⟩
  exact ⟨rfl, Drawn0.refl _⟩
def GIndex.f (l0 l1 : List Int) : Option Int := if l0.length < 4294967281 ∧ 2 ≤ l1.length ∧ l1.length ≤ 1000 ∧ (∀ x ∈ l0, 0 ≤ x ∧ x < 256) ∧ (∀ x ∈ l1, 0 ≤ x ∧ x < 256) then some (Lib.index (Lib.bytesOf l0) (Lib.bytesOf l1)) else none
theorem index_empty (l : List UInt8) (h : l ≠ []) : Lib.index [] l = -1 := by
  unfold Lib.index
  cases l with
  | nil => exact absurd rfl h
  | cons => rfl
theorem GIndex.calls (A0 : Option Addr) (c0 : Nat) (l0 : List Int) (A1 : Option Addr) (c1 : Nat) (l1 : List Int) (r : Int) (w : World) (hr0 : Kd.C (Kd.int .u8) w A0 l0.length l0) (hc0 : l0.length ≤ c0) (hr1 : Kd.C (Kd.int .u8) w A1 l1.length l1) (hc1 : l1.length ≤ c1) (hT : TF w) (h : GIndex.f l0 l1 = some r) :
    Calls Tryz.prog 28 #[.slice A0 l0.length c0, .slice A1 l1.length c1] w fun e w' => e = .returned (.int .i64 r) ∧ Below w.heap.size w w' := by
  unfold GIndex.f at h
  split at h
  case isFalse => cases h
  case isTrue hs =>
    obtain ⟨h1, h2, h3, h4, h5⟩ := hs
    obtain rfl := Option.some.inj h
    obtain ⟨m, hm⟩ := hT.1
    obtain ⟨ad1, rfl, hcell1⟩ := (Kd.reads_of_C (d := (0 : Int)) hr1).2.2 (by omega)
    by_cases h0 : 0 < l0.length
    · obtain ⟨ad0, rfl, hcell0⟩ := (Kd.reads_of_C (d := (0 : Int)) hr0).2.2 h0
      refine (Any.bytes_Index_at Tryz.lays185 ad0 ad1 l0.length c0 l1.length c1 l0 l1 m w rfl rfl h4 h5 hcell0 hcell1 hc0 h1 (by omega) hm).mono ?_
      rintro e w' ⟨rfl, q, rfl⟩
      exact ⟨rfl, pw_below_drewN (Below.refl _ _) q⟩
    · obtain rfl : l0 = [] := List.eq_nil_of_length_eq_zero (by omega)
      have hne : Lib.bytesOf l1 ≠ [] := by
        intro e
        have := congrArg List.length e
        simp [Lib.bytesOf] at this
        rw [this] at h2
        simp at h2
      have e0 : Lib.index (Lib.bytesOf []) (Lib.bytesOf l1) = -1 := index_empty _ hne
      rw [e0]
      refine (Any.bytes_Index_longer Tryz.lays185 A0 (some ad1) 0 c0 l1.length c1 w h2 (by omega) (by omega)).mono ?_
      rintro e w' ⟨rfl, rfl⟩
      exact ⟨rfl, Below.refl _ _⟩
def GItoa.f (a0 : Int) : Option ByteArray := if -9223372036854775808 ≤ a0 ∧ a0 ≤ 9223372036854775807 then some ⟨(Lib.itoa a0).toArray⟩ else none
theorem GItoa.calls (a0 : Int) (r : ByteArray) (w : World) (hT : TF w) (h : GItoa.f a0 = some r) :
    Calls Tryz.prog 20 #[.int .i64 a0] w fun e w' => e = .returned (.string r) ∧ Below w.heap.size w w' := by
  unfold GItoa.f at h
  split at h
  case isFalse => cases h
  case isTrue hs =>
    obtain rfl := Option.some.inj h
    refine (Any.strconv_Itoa Tryz.lays171 a0 hs.1 hs.2 w hT.2).mono ?_
    rintro e w' ⟨rfl, k, os, rfl⟩
    exact ⟨rfl, below_grow _ _ (Nat.le_refl _) _ _⟩
theorem Atoi_calls (a0 : ByteArray) (n : Int) (w : World) (hs : a0.size ≤ 18) (h : Lib.atoi a0.data.toList = some n) :
    Calls Tryz.prog 46 #[.string a0] w fun e w' => e = .returned (.tuple #[.int .i64 n, .nilIface]) ∧ Below w.heap.size w w' := by
  refine (Any.strconv_Atoi Tryz.lays172 a0 n hs h w).mono ?_
  rintro e w' ⟨rfl, t, rfl⟩
  exact ⟨rfl, conv_below w _ t⟩
end Go.Proofs.YtomebmjjgkcjiaaGreatDoor.G
