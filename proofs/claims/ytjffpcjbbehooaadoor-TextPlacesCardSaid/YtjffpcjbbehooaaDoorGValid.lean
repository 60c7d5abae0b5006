/-
  utf8.ValidString and utf8.DecodeRune at this dump, by the shelf's contracts, in the printer's words.
-/
import Derived.Test.YtjffpcjbbehooaaDoorTabs
import Derived.Test.YtjffpcjbbehooaaDoorUtfWords
import Derived.Test.YtjffpcjbbehooaaDoorWWords
import Derived.Test.YtjffpcjbbehooaaDoorShelf
set_option linter.unusedVariables false
namespace Go.Proofs.YtjffpcjbbehooaaDoor.G
open Go.RowKit Go.Proofs.YtjffpcjbbehooaaDoorW.PrintWords Go.Lib
def GValidString.f (a0 : ByteArray) : Option Bool := if a0.size ≤ 9223372036854775807 then some (Lib.validD a0.data.toList) else none
theorem GValidString.calls (a0 : ByteArray) (r : Bool) (w : World) (hT : T8 w) (h : GValidString.f a0 = some r) :
    Calls Tryd.prog 25 #[.string a0] w fun e w' => e = .returned (.bool r) ∧ Below w.heap.size w w' := by
  unfold GValidString.f at h
  split at h
  case isFalse => cases h
  case isTrue hs =>
    obtain rfl := Option.some.inj h
    exact Any.utf8_ValidString Tryd.lays196 a0 w hs hT
/-- Of bytes that are at least one. -/
def GDecodeRune.f (l : List Int) : Option (Int × Int) := if l = [] then none else if (∀ x ∈ l, 0 ≤ x ∧ x ≤ 255) then some (((Lib.decodeL (byteList l)).1 : Int), ((Lib.decodeL (byteList l)).2 : Int)) else none
theorem GDecodeRune.calls (A0 : Option Addr) (c0 : Nat) (l0 : List Int) (r1 r2 : Int) (w : World) (hr0 : Kd.C (Kd.int .u8) w A0 l0.length l0) (hc0 : l0.length ≤ c0) (hT : T8 w) (h : GDecodeRune.f l0 = some (r1, r2)) :
    Calls Tryd.prog 39 #[.slice A0 l0.length c0] w fun e w' => e = .returned (.tuple #[.int .i32 r1, .int .i64 r2]) ∧ Below w.heap.size w w' := by
  unfold GDecodeRune.f at h
  split at h
  case isTrue => cases h
  case isFalse hne =>
    split at h
    case isFalse => cases h
    case isTrue hby =>
      simp only [Option.some.injEq, Prod.mk.injEq] at h
      obtain ⟨rfl, rfl⟩ := h
      have hpos : 0 < l0.length := List.length_pos_iff.2 hne
      obtain ⟨ad, rfl, hcell⟩ := (Kd.reads_of_C (d := (0 : Int)) hr0).2.2 hpos
      have hsp : ad.spot = none := by
        have h0 := hcell 0 hpos
        simp only [Addr.add, if_true] at h0
        unfold World.cell? at h0
        split at h0
        · split at h0
          · cases h0
          · rename_i hs; simpa using hs
        · cases h0
      obtain ⟨b, off, spot⟩ := ad
      simp only at hsp
      subst hsp
      have hlen : (byteList l0).length = l0.length := by simp [byteList]
      have hsz : (⟨(byteList l0).toArray⟩ : ByteArray).size = l0.length := by simp [ByteArray.size, hlen]
      have hmain := Any7.utf8_DecodeRune Tryd.lays7n32 (⟨(byteList l0).toArray⟩ : ByteArray) b off c0 w hT (fun j hj => by
        rw [hsz] at hj
        have hc := hcell j hj
        have ha : (Addr.add ⟨b, off, none⟩ j) = ⟨b, off + j, none⟩ := by
          unfold Addr.add
          split
          · rename_i h; rw [h]; rfl
          · rfl
        rw [ha] at hc
        rw [hc]
        have hx := hby (l0[j]) (List.getElem_mem hj)
        have hg : (⟨(byteList l0).toArray⟩ : ByteArray).get! j = UInt8.ofNat (l0[j]).toNat := by
          show (byteList l0).toArray[j]! = _
          rw [getElem!_pos _ j (by simp [hlen]; exact hj)]
          simp [byteList]
        rw [hg, List.getD_eq_getElem?_getD, List.getElem?_eq_getElem hj]
        have h3 : (UInt8.ofNat (l0[j]).toNat).toNat = (l0[j]).toNat := by
          rw [UInt8.toNat_ofNat']
          exact Nat.mod_eq_of_lt (by omega)
        rw [h3, Int.toNat_of_nonneg hx.1]
        rfl)
      rw [hsz] at hmain
      have hdec : Lib.decodeGo (⟨(byteList l0).toArray⟩ : ByteArray) = Lib.decodeL (byteList l0) := by
        unfold Lib.decodeGo Lib.decodeL
        rw [if_neg (by rw [hsz]; omega)]
      rw [hdec] at hmain
      exact hmain
end Go.Proofs.YtjffpcjbbehooaaDoor.G
