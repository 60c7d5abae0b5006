/-
  the document's Show of a number that isn't negative, and its Encode: their contracts.
-/
import Derived.Test.YtomebmjjgkcjiaaDoorFrameEnc
set_option linter.unusedVariables false
namespace Go.Proofs.YtomebmjjgkcjiaaDoor.G
open Go.RowKit Go.Proofs.YtomebmjjgkcjiaaDoorW.PrintWords Go.Lib
/-- The digits, none for 0. -/
def digsOf (m : Nat) : List UInt8 := if m = 0 then [] else decDigits m
theorem digsOf_step (m : Nat) (h : m ≠ 0) : digsOf m = digsOf (m / 10) ++ [UInt8.ofNat (48 + m % 10)] := by
  unfold digsOf
  rw [if_neg h]
  by_cases h10 : m < 10
  · have e : m / 10 = 0 := by omega
    have e2 : m % 10 = m := by omega
    rw [e, if_pos rfl, decDigits, dif_pos h10, e2]
    rfl
  · have e : ¬ m / 10 = 0 := by omega
    rw [if_neg e, decDigits, dif_neg h10]
theorem R_new0 (W : World) (C : Array Value) (base : Nat) (hb : base ≤ W.heap.size) (l : List Int) (hC : C.toList = encs (Value.int .u8) l) (hl : l.length ≤ 1000) : OwnB (W.alloc (.cells C 5)) base (.slice (some ⟨W.heap.size, 0, none⟩) l.length l.length) l := by
  refine Kd.R_of_own (h1 := fun _ => rfl) ?_ (fun _ _ => trivial)
  have hs : C.size = l.length := by rw [← Array.length_toList, hC, encs_length]
  refine ⟨by rw [encs_length]; omega, .inr ⟨W.heap.size, l.length, C, rfl, hb, World.alloc_heap_new W _, Nat.le_refl _, by unfold maxLen; omega, by omega, ?_⟩⟩
  rw [hC, Nat.mul_one, List.take_of_length_le (by rw [encs_length]; exact Nat.le_refl _)]
set_option maxHeartbeats 4000000 in
set_option maxRecDepth 100000 in
theorem Show_calls (n : Nat) (w : World) (hn : n ≤ 1000000) :
    Calls Tryd.prog 20 #[.int .i64 n] w fun e w' => e = .returned (.string (ofL (itoa (n : Int)))) ∧ Below w.heap.size w w' := by
  rw [itoa_nonneg]
  by_cases h0 : n = 0
  · subst h0
    go_enter Tryd.func20, Tryd.ntmps20
    go_wp2_with (fail)
    go_ret
    refine ⟨?_, Below.refl _ _⟩
    rw [decDigits]
    rfl
  · have hb0 : ((n : Int) == 0) = false := by simpa using h0
    have hneg : decide ((n : Int) < 0) = false := decide_eq_false (by omega)
    have hd : digsOf n = decDigits n := by unfold digsOf; rw [if_neg h0]
    rw [← hd]
    have HN := Aside0.mk hn
    have HDP := Aside0.mk (digsOf_step n h0)
    have HR0 := Aside0.mk (R_new0 w #[] w.heap.size (Nat.le_refl _) [] rfl (by decide))
    clear hn hd h0
    go_enter Tryd.func20, Tryd.ntmps20
    go_wp2_with (fail)
    go_loopg [0, 3, 5, 6] (n + 1) (fun gk v0 v3 _ _ wx => ∃ (m : Nat) (l : List UInt8), v0 = .int .i64 m ∧ Aside0 (m < gk ∧ m ≤ n ∧ digsOf m ++ l = digsOf n ∧ l.length + m ≤ n) ∧ Aside0 (OwnB wx w.heap.size v3 (ints l)) ∧ Aside0 (Below w.heap.size w wx))
    case atStart => exact ⟨n, [], rfl, ⟨by omega, Nat.le_refl _, by simp, by simp⟩, HR0, ⟨below_alloc (Below.refl _ _) _⟩⟩
    case round =>
      obtain ⟨m, l, rfl, HM, HO, HB⟩ := hrel
      obtain ⟨A, c, rfl, hlc, hC⟩ := Kd.R_reads HO.out
      have HC := Aside0.mk (And.intro hlc hC)
      have HIL := Aside0.mk (ints_length l)
      clear hlc hC
      by_cases hm : m = 0
      · subst hm
        have hl : l = digsOf n := by have := HM.out.2.2.1; simpa [digsOf] using this
        have hnz : 0 < (ints l).length := by
          rw [ints_length, hl, HDP.out]
          simp
        have hcv := conv_ints (P := Tryd.prog) (W := wr) (A := A) (l := l) (by have := HC.out.2; rw [ints_length] at this; exact this) (by rw [← ints_length]; exact hnz) Tryd.underlying22 Tryd.underlying5 Tryd.underlying9
        rw [← ints_length] at hcv
        have HL := Aside0.mk hl
        clear hl hnz
        go_wp2_with (fail)
        go_ret
        exact ⟨by rw [← HL.out]; rfl, HB.out⟩
      · have hm0 : ¬ ((m : Int) = 0) := by omega
        have hm1 : ((m : Int) != 0) = true := by simp; omega
        have ht : (m : Int).tmod 10 = ((m % 10 : Nat) : Int) := by rw [Int.tmod_eq_emod_of_nonneg (by omega)]; omega
        have hq : (m : Int).tdiv 10 = ((m / 10 : Nat) : Int) := by rw [Int.tdiv_eq_ediv_of_nonneg (by omega)]; omega
        have hr0 : ¬ (((m % 10 : Nat) : Int) < 0) := by omega
        have hw : wrap64 (48 + ((m % 10 : Nat) : Int)) = 48 + ((m % 10 : Nat) : Int) := by unfold wrap64; omega
        have h256 : (48 + ((m % 10 : Nat) : Int)) % 256 = 48 + ((m % 10 : Nat) : Int) := by omega
        have hHN := R_new0 wr #[.int .u8 (48 + ((m % 10 : Nat) : Int))] w.heap.size HB.out.size [48 + ((m % 10 : Nat) : Int)] rfl (by simp)
        have HNR := Aside0.mk hHN
        clear hHN
        go_wp2_with (at_builtin; refine Kd.R_append_rows (Kd.int .u8) (w0 := w) w.heap.size rfl (.tmp 24) (.tmp 25) 22 5 (.int .u8 0) 1 rfl Tryd.underlying22 info8 rfl (by decide) (by omega) (.slice (some ⟨wr.heap.size, 0, none⟩) 1 1) [48 + ((m % 10 : Nat) : Int)] (ints l) A _ _ (fun _ => True) (fun _ => False) rfl rfl ?aO ?aR (fun _ _ h => h) (fun _ h => h.elim) ?aF ?aB ?aS ?aL ?_; (case aO => exact HNR.out); (case aR => exact Kd.C_below HC.out.2 (below_alloc (Below.refl _ _) _)); (case aF => exact fun _ _ => trivial); (case aB => exact below_alloc HB.out _); (case aS => have := HB.out.size; simp; omega); (case aL => have h1 := HM.out.2.2.2; have h2 := HN.out; have h3 := HIL.out; simp; omega); intro v5 w5 hr5 hb5 _ _; have H5 := Aside0.mk (And.intro hr5 hb5); clear hr5 hb5)
        have hwq : wrap64 ((m : Int) / 10) = ((m / 10 : Nat) : Int) := by unfold wrap64; have h1 := HM.out.2.1; have h2 := HN.out; omega
        rw [hwq]
        obtain ⟨G, rfl⟩ : ∃ G, gk = G + 1 := ⟨gk - 1, by have := HM.out.1; omega⟩
        go_roundg G
        case measure => omega
        case rel =>
          have h1 := HM.out
          have hs := digsOf_step m hm
          refine ⟨m / 10, UInt8.ofNat (48 + m % 10) :: l, rfl, ⟨by omega, by omega, ?_, by simp; omega⟩, ⟨?_⟩, ⟨H5.out.2⟩⟩
          · rw [← h1.2.2.1, hs, List.append_assoc]
            rfl
          · have e : ints (UInt8.ofNat (48 + m % 10) :: l) = [48 + ((m % 10 : Nat) : Int)] ++ ints l := by
              unfold ints
              rw [List.map_cons]
              have : ((UInt8.ofNat (48 + m % 10)).toNat : Int) = 48 + ((m % 10 : Nat) : Int) := by
                rw [UInt8.toNat_ofNat']
                omega
              rw [this]
              rfl
            rw [e]
            exact H5.out.1
end Go.Proofs.YtomebmjjgkcjiaaDoor.G
