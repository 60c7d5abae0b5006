/-
  The law FrameEncodes: its walk.
-/
import Derived.Test.YtomebmjjgkcjiaaDoorFramePieces
import Derived.Test.YtomebmjjgkcjiaaDoorFrameRefEnc
set_option linter.unusedVariables false
namespace Go.Proofs.YtomebmjjgkcjiaaDoor.G
open Go.RowKit Go.Proofs.YtomebmjjgkcjiaaDoorW.PrintWords Go.Lib
theorem cut_C (A : Option Addr) (b : List UInt8) (c m : Nat) (hm : m ≤ b.length) (hb : b.length ≤ c) :
    ∀ w : World, (Instr.slice 22 (.slice A b.length c) none (some (.int .i64 m)) none).run Tryd.prog w = .ok (.slice A m c) w := by
  intro w
  obtain ⟨i0, hi, hz0, hz1, hz2⟩ := info_parts info8
  have := cut_to (P := Tryd.prog) 22 5 .i64 Tryd.underlying22 hi A b.length c (m : Int) (by omega) (by omega) hb w
  simpa using this
set_option maxHeartbeats 4000000 in
set_option maxRecDepth 100000 in
theorem encodes_calls (A : Option Addr) (c : Nat) (b : List UInt8) (w : World) (hT : TF w) (hC : Kd.C (Kd.int .u8) w A b.length (ints b)) (hc : b.length ≤ c) :
    Calls Tryd.prog 3 #[.slice A b.length c] w fun e w' => e = .returned (.bool true) ∧ Below w.heap.size w w' := by
  have HA := Aside0.mk (Alive_calls w hT)
  by_cases hbig : 200000 < b.length
  · have h1 : decide ((200000 : Int) < (b.length : Int)) = true := decide_eq_true (by omega)
    clear hbig hC hc hT
    go_enter Tryd.func3, Tryd.ntmps3
    go_wp2_with (go_at_call 9; refine HA.out.mono ?_; rintro e w1 ⟨rfl, hb⟩; have HB1 := Aside0.mk hb; clear hb)
    go_ret
    exact ⟨rfl, HB1.out⟩
  · have h1 : decide ((200000 : Int) < (b.length : Int)) = false := decide_eq_false (by omega)
    have HT := Aside0.mk hT
    have HC := Aside0.mk (And.intro hC (And.intro hc hbig))
    clear hbig hC hc hT
    go_enter Tryd.func3, Tryd.ntmps3
    go_wp2_with (go_at_call 9; refine HA.out.mono ?_; rintro e w1 ⟨rfl, hb⟩; have HB1 := Aside0.mk hb; clear hb)
    refine (Spare_calls A c b w1 (Kd.C_below HC.out.1 HB1.out) HC.out.2.1 (by have := HC.out.2.2; omega)).mono ?_
    rintro e w2 ⟨A2, c2, rfl, hl2, hC2, hb2⟩
    have HB2 := Aside0.mk (below_step HB1.out hb2)
    have HC2 := Aside0.mk (And.intro hl2 hC2)
    have hfl : (b ++ fill).length = b.length + 8 := by rw [List.length_append]; rfl
    have hcut := cut_C A2 (b ++ fill) c2 b.length (by omega) (by omega)
    rw [hfl] at hcut
    have hcb := take_C (l := b ++ fill) (by rw [hfl]; exact hC2) b.length (by omega)
    rw [List.take_left] at hcb
    have HCb := Aside0.mk hcb
    have HL2 := Aside0.mk hfl
    have HSP := Aside0.mk (fun (W : World) (hb : Below w.heap.size w W) => Spare_calls A c b W (Kd.C_below HC.out.1 hb) HC.out.2.1 (by have := HC.out.2.2; omega))
    have HS2 := Aside0.mk (fun (W : World) (A5 : Option Addr) (c5 : Nat) (hb : Below w2.heap.size w2 W) (h5 : b.length + 8 ≤ c5) (hC5 : Kd.C (Kd.int .u8) W A5 (b.length + 8) (ints (b ++ fill))) => Same_calls A2 A5 c2 c5 (b.length + 8) (b ++ fill) W HL2.out (Kd.C_below HC2.out.2 hb) HC2.out.1 hC5 h5 (by have := HC.out.2.2; omega))
    clear hb2 hl2 hC2 hcb hfl
    by_cases h65 : b.length ≤ 65536
    · have HE := Aside0.mk (fun W (hb : Below w2.heap.size w2 W) (hT : TF W) => Encode_calls A2 c2 b W hT (Kd.C_below HCb.out hb) (by have := HC2.out.1; omega) h65)
      have HR := Aside0.mk (fun W (hb : Below w.heap.size w W) => RefEncode_calls A c b W (Kd.C_below HC.out.1 hb) h65)
      have HEL := Aside0.mk (show (encL b).length ≤ 100000 by unfold encL headOfLen; have := itoa_length_le (b.length : Int) (by omega) (by omega); simp; omega)
      generalize encL b = E at *
      go_wp2_with (fail)
      refine (HE.out w2 (Below.refl _ _) (TF_below HT.out HB2.out)).mono ?_
      rintro e w3 ⟨A3, c3, rfl, hO3, hb3⟩
      have H3 := Aside0.mk (own_reads hO3)
      have HB3 := Aside0.mk (And.intro (below_step HB2.out hb3) hb3)
      clear hO3 hb3
      go_wp2_with (fail)
      refine (HR.out w3 HB3.out.1).mono ?_
      rintro e w4 ⟨A4, c4, rfl, hl4, hC4, hb4⟩
      have H4 := Aside0.mk (And.intro hl4 hC4)
      have HB4 := Aside0.mk (And.intro (below_step HB3.out.1 hb4) (And.intro (below_step HB3.out.2 hb4) hb4))
      clear hl4 hC4 hb4
      go_wp2_with (fail)
      refine (Same_calls A3 A4 c3 c4 E.length E w4 rfl (Kd.C_below H3.out.2 HB4.out.2.2) H3.out.1 H4.out.2 H4.out.1 (by have := HEL.out; omega)).mono ?_
      rintro e w5 ⟨rfl, hb5⟩
      have HB5 := Aside0.mk (And.intro (below_step HB4.out.1 hb5) (below_step HB4.out.2.1 hb5))
      clear hb5
      go_wp2_with (fail)
      refine (HSP.out w5 HB5.out.1).mono ?_
      rintro e w6 ⟨A6, c6, rfl, hl6, hC6, hb6⟩
      have H6 := Aside0.mk (And.intro hl6 hC6)
      have HB6 := Aside0.mk (And.intro (below_step HB5.out.1 hb6) (below_step HB5.out.2 hb6))
      clear hl6 hC6 hb6
      go_wp2_with (fail)
      refine (HS2.out w6 A6 c6 HB6.out.2 H6.out.1 H6.out.2).mono ?_
      rintro e w7 ⟨rfl, hb7⟩
      have HB7 := Aside0.mk (below_step HB6.out.1 hb7)
      clear hb7
      go_wp2_with (fail)
      go_ret
      exact ⟨rfl, HB7.out⟩
    · go_wp2_with (fail)
      refine (Encode_long A2 c2 b w2 (by omega)).mono ?_
      rintro e w3 ⟨rfl, rfl⟩
      go_wp2_with (fail)
      refine (RefEncode_long A c b w3 (by omega)).mono ?_
      rintro e w4 ⟨rfl, rfl⟩
      go_wp2_with (fail)
      refine (Same_calls none none 0 0 0 [] w4 rfl (Kd.C_nil _ _) (Nat.le_refl _) (Kd.C_nil _ _) (Nat.le_refl _) (by decide)).mono ?_
      rintro e w5 ⟨rfl, hb5⟩
      have HB5 := Aside0.mk (And.intro (below_step HB2.out hb5) hb5)
      clear hb5
      go_wp2_with (fail)
      refine (HSP.out w5 HB5.out.1).mono ?_
      rintro e w6 ⟨A6, c6, rfl, hl6, hC6, hb6⟩
      have H6 := Aside0.mk (And.intro hl6 hC6)
      have HB6 := Aside0.mk (And.intro (below_step HB5.out.1 hb6) (below_step HB5.out.2 hb6))
      clear hl6 hC6 hb6
      go_wp2_with (fail)
      refine (HS2.out w6 A6 c6 HB6.out.2 H6.out.1 H6.out.2).mono ?_
      rintro e w7 ⟨rfl, hb7⟩
      have HB7 := Aside0.mk (below_step HB6.out.1 hb7)
      clear hb7
      go_wp2_with (fail)
      go_ret
      exact ⟨rfl, HB7.out⟩
end Go.Proofs.YtomebmjjgkcjiaaDoor.G
