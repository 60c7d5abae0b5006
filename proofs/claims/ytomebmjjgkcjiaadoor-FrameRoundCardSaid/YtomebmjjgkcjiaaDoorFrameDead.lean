/-
  The law FrameDead: its walk.
-/
import Derived.Test.YtomebmjjgkcjiaaDoorFrameAll
set_option linter.unusedVariables false
namespace Go.Proofs.YtomebmjjgkcjiaaDoor.G
open Go.RowKit Go.Proofs.YtomebmjjgkcjiaaDoorW.PrintWords Go.Lib
set_option maxHeartbeats 4000000 in
set_option maxRecDepth 100000 in
theorem dead_calls (A A' : Option Addr) (c c' : Nat) (b m : List UInt8) (w : World) (hT : TF w) (hC : Kd.C (Kd.int .u8) w A b.length (ints b)) (hc : b.length ≤ c) (hC' : Kd.C (Kd.int .u8) w A' m.length (ints m)) (hc' : m.length ≤ c') (hmax : b.length ≤ 140737488355328) (hmax' : m.length ≤ 140737488355328) :
    Calls Tryd.prog 8 #[.slice A b.length c, .slice A' m.length c'] w fun e w' => e = .returned (.bool true) ∧ Below w.heap.size w w' := by
  have HA := Aside0.mk (Alive_calls w hT)
  have hwr : wrap64 ((b.length : Int) + (m.length : Int)) = (b.length : Int) + (m.length : Int) := by unfold wrap64; omega
  by_cases hbig : 200000 < b.length + m.length
  · have h1 : decide ((200000 : Int) < (b.length : Int) + (m.length : Int)) = true := decide_eq_true (by omega)
    have h2 : (200000 : Int) < (b.length : Int) + (m.length : Int) := by omega
    clear hbig hC hc hT hC' hc'
    go_enter Tryd.func8, Tryd.ntmps8
    go_wp2_with (go_at_call 9; refine HA.out.mono ?_; rintro e w1 ⟨rfl, hb⟩; have HB1 := Aside0.mk hb; clear hb)
    go_ret
    exact ⟨rfl, HB1.out⟩
  · have h1 : decide ((200000 : Int) < (b.length : Int) + (m.length : Int)) = false := decide_eq_false (by omega)
    have h2 : ¬ (200000 : Int) < (b.length : Int) + (m.length : Int) := by omega
    have HT := Aside0.mk hT
    have HC := Aside0.mk (And.intro hC hc)
    have HC' := Aside0.mk (And.intro hC' hc')
    have HL := Aside0.mk hbig
    have HSL := Aside0.mk (feedL_len _ b (Nat.lt_succ_self _))
    have HF := Aside0.mk (show feedD [] 0 b = feedL b from by unfold feedD feedS; simp)
    clear hbig hC hc hT hC' hc'
    generalize feedL b = S at *
    obtain ⟨o, r, e0⟩ := S
    by_cases he : e0 = 0
    · subst he
      go_enter Tryd.func8, Tryd.ntmps8
      go_wp2_with (first | (go_at_call 9; refine HA.out.mono ?_; rintro e w1 ⟨rfl, hb⟩; have HB1 := Aside0.mk hb; clear hb) | (go_at_call 15; refine (New_calls w1).mono ?_; rintro e w2 ⟨rfl, hw2⟩; have HD2 := Aside0.mk (hw2 ▸ New_dec w1); have HB2 := Aside0.mk (hw2 ▸ (below_alloc HB1.out (.cells #[.slice none 0 0, .int .i64 0] 48))); clear hw2) | (go_at_call 14; refine (Copy_calls A c b _ (Kd.C_below HC.out.1 HB2.out) HC.out.2 (by have := HL.out; omega)).mono ?_; rintro e w3 ⟨A3, c3, rfl, hr3, hb3⟩; have H3 := Aside0.mk (And.intro hr3 hb3); clear hr3 hb3) | (go_at_call 16; refine (Feed_any w1.heap.size [] b 0 none A3 0 c3 w w3 HT.out (below_step HB2.out H3.out.2) HB1.out.size (HD2.out.below H3.out.2) (own_reads H3.out.1).2 (own_reads H3.out.1).1 (by have := HL.out; simp; omega) (fun h => rfl)).mono ?_; rintro e w4 ⟨v4, A4, c4, he4, hO4, hD4, hA4, hK4⟩; rw [HF.out] at he4 hD4; subst he4; have H4 := Aside0.mk (And.intro hD4 hK4); clear hD4 hA4 hK4 hO4) | (go_at_call 21; refine (Dead_calls w1.heap.size _ _ _ _ w4 H4.out.1 false rfl).mono ?_; rintro e w5 ⟨rfl, rfl⟩))
      go_ret
      refine ⟨rfl, ?_⟩
      exact (below_step HB2.out H3.out.2).trans (H4.out.2.below (below_step HB2.out H3.out.2).size (fun k hk e => by have := HB1.out.size; omega))
    · have hb0 : (e0 == 0) = false := by simpa using he
      have hb1 : (e0 != 0) = true := by simpa using he
      have HE := Aside0.mk (HSL.out.2.2 he)
      obtain ⟨hr, hor⟩ := HE.out
      subst hr
      have HBE := Aside0.mk hb1
      have hee : (e0 == e0) = true := by simp
      rcases hor with rfl | rfl
      all_goals
        clear he hb0 hb1
        go_enter Tryd.func8, Tryd.ntmps8
        go_wp2_with (first | (go_at_call 9; refine HA.out.mono ?_; rintro e w1 ⟨rfl, hb⟩; have HB1 := Aside0.mk hb; clear hb) | (go_at_call 15; refine (New_calls w1).mono ?_; rintro e w2 ⟨rfl, hw2⟩; have HD2 := Aside0.mk (hw2 ▸ New_dec w1); have HB2 := Aside0.mk (hw2 ▸ (below_alloc HB1.out (.cells #[.slice none 0 0, .int .i64 0] 48))); clear hw2))
        refine (Copy_calls A c b _ (Kd.C_below HC.out.1 HB2.out) HC.out.2 (by have := HL.out; omega)).mono ?_
        rintro e w3 ⟨A3, c3, rfl, hr3, hb3⟩
        have H3 := Aside0.mk (And.intro hr3 hb3)
        clear hr3 hb3
        go_wp2_with (fail)
        refine (Feed_any w1.heap.size [] b 0 none A3 0 c3 w w3 HT.out (below_step HB2.out H3.out.2) HB1.out.size (HD2.out.below H3.out.2) (own_reads H3.out.1).2 (own_reads H3.out.1).1 (by have := HL.out; simp; omega) (fun h => rfl)).mono ?_
        rintro e w4 ⟨v4, A4, c4, he4, hO4, hD4, hA4, hK4⟩
        rw [HF.out] at he4 hD4
        subst he4
        have H4 := Aside0.mk (And.intro hD4 ((below_step HB2.out H3.out.2).trans (hK4.below (below_step HB2.out H3.out.2).size (fun k hk e => by have := HB1.out.size; omega))))
        clear hD4 hA4 hK4 hO4
        go_wp2_with (fail)
        refine (Copy_calls A' c' m _ (Kd.C_below HC'.out.1 H4.out.2) HC'.out.2 (by have := HL.out; omega)).mono ?_
        rintro e w5 ⟨A5, c5, rfl, hr5, hb5⟩
        have H5 := Aside0.mk (And.intro hr5 hb5)
        clear hr5 hb5
        go_wp2_with (fail)
        refine (Feed_dead w1.heap.size [] _ A4 c4 _ w5 (H4.out.1.below H5.out.2) (by decide)).mono ?_
        rintro e w6 ⟨rfl, hb6⟩
        have H6 := Aside0.mk (And.intro ((H4.out.1.below H5.out.2).below hb6) (below_step (below_step H4.out.2 H5.out.2) hb6))
        clear hb6
        go_wp2_with (fail)
        refine (Dead_calls w1.heap.size _ _ _ _ w6 H6.out.1 true (by decide)).mono ?_
        rintro e w7 ⟨rfl, rfl⟩
        go_wp2_with (go_at_call 22; refine (Held_calls w1.heap.size _ _ _ _ w6 H6.out.1).mono ?_; rintro e w8 ⟨rfl, rfl⟩)
        go_ret
        exact ⟨rfl, H6.out.2⟩
end Go.Proofs.YtomebmjjgkcjiaaDoor.G
