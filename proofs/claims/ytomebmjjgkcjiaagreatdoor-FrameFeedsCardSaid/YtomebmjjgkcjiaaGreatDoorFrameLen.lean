/-
  frame.field, frame.length: their contracts, in the printer's words.
-/
import Derived.Test.YtomebmjjgkcjiaaGreatDoorFrameIter
set_option linter.unusedVariables false
namespace Go.Proofs.YtomebmjjgkcjiaaGreatDoor.G
open Go.RowKit Go.Proofs.YtomebmjjgkcjiaaGreatDoorW.PrintWords Go.Lib
def lets : List UInt8 := [97, 98, 99, 100, 101, 102, 103, 104, 105, 106, 107, 108, 109, 110, 111, 112, 113, 114, 115, 116, 117, 118, 119, 120, 121, 122, 45]
/-- A line's name and value; false, if it is no field. -/
def fieldL (l : List UInt8) : List UInt8 × List UInt8 × Bool :=
  ((cut l [58]).1.map lowB, (cut l [58]).2.1, (cut l [58]).2.2 && (!decide ((cut l [58]).1.map lowB = [])) && decide (trimS ((cut l [58]).1.map lowB) lets = []) && !(containsAny (cut l [58]).2.1 [13, 10]))
theorem cut_le (l s : List UInt8) : (cut l s).1.length ≤ l.length ∧ (cut l s).2.1.length ≤ l.length := by
  unfold cut
  split
  · simp only [List.length_take, List.length_drop]; omega
  · simp
set_option maxHeartbeats 2000000 in
set_option maxRecDepth 100000 in
theorem Field_calls (s : ByteArray) (w : World) (hT : TF w) (hs : s.size < 4294967281) :
    Calls Tryz.prog 31 #[.string s] w fun e w' => e = .returned (.tuple #[.string (ofL (fieldL s.data.toList).1), .string (ofL (fieldL s.data.toList).2.1), .bool (fieldL s.data.toList).2.2]) ∧ Below w.heap.size w w' := by
  have hcl := cut_le s.data.toList [58]
  rw [← Lib.size_eq] at hcl
  have H1 := Aside0.mk (GCut.calls s ⟨#[58]⟩ _ _ _ w hT (by unfold GCut.f; rw [if_pos hs]))
  change Aside0 (Calls _ _ _ _ fun e w' => e = Ending.returned (.tuple #[.string (ofL (cut s.data.toList [58]).1), .string (ofL (cut s.data.toList [58]).2.1), .bool (cut s.data.toList [58]).2.2]) ∧ _) at H1
  clear hT
  unfold fieldL
  generalize cut s.data.toList [58] = c at *
  obtain ⟨c1, c2, c3⟩ := c
  simp only at H1 hcl ⊢
  have H2 := Aside0.mk (fun W => GLower.calls (ofL c1) _ W (by unfold GLower.f; rw [if_pos (by rw [ofL_size]; omega), ofL_data]))
  change Aside0 (∀ W, Calls _ _ _ W fun e w' => e = Ending.returned (.string (ofL (c1.map lowB))) ∧ _) at H2
  have hnl : (c1.map lowB).length ≤ s.size := by rw [List.length_map]; exact hcl.1
  generalize c1.map lowB = n at *
  have H3 := Aside0.mk (fun W => GTrim.calls (ofL n) ⟨#[97, 98, 99, 100, 101, 102, 103, 104, 105, 106, 107, 108, 109, 110, 111, 112, 113, 114, 115, 116, 117, 118, 119, 120, 121, 122, 45]⟩ _ W (by unfold GTrim.f; rw [if_pos ⟨by rw [ofL_size]; omega, by decide, by decide⟩, ofL_data]))
  change Aside0 (∀ W, Calls _ _ _ W fun e w' => e = Ending.returned (.string (ofL (trimS n lets))) ∧ _) at H3
  have H4 := Aside0.mk (fun W => ContainsAny_calls (ofL c2) W (by rw [ofL_size]; omega))
  simp only [ofL_data] at H4
  have hE := isEmpty_of (ofL n) n rfl
  have hE3 := isEmpty_of (ofL (trimS n lets)) (trimS n lets) rfl
  generalize trimS n lets = t at *
  generalize containsAny c2 [13, 10] = b at *
  generalize ofL n = N at *
  generalize ofL t = T at *
  generalize ofL c2 = V at *
  generalize ofL c1 = C at *
  clear hcl hs hnl
  by_cases hn : n = []
  · rw [decide_eq_true hn] at hE ⊢
    cases c3 <;> simp only [Bool.not_true, Bool.and_false, Bool.false_and] <;>
    · go_enter Tryz.func31, Tryz.ntmps31
      go_wp2_with (first | (go_at_call 42; refine H1.out.mono ?_; rintro e w1 ⟨rfl, hb⟩; have HB1 := Aside0.mk hb; clear hb) | (go_at_call 43; refine (H2.out _).mono ?_; rintro e w2 ⟨rfl, hb⟩; have HB2 := Aside0.mk hb; clear hb))
      go_ret3
      exact ⟨rfl, below_step HB1.out HB2.out⟩
  · rw [decide_eq_false hn] at hE ⊢
    cases c3 with
    | false =>
      simp only [Bool.false_and]
      go_enter Tryz.func31, Tryz.ntmps31
      go_wp2_with (first | (go_at_call 42; refine H1.out.mono ?_; rintro e w1 ⟨rfl, hb⟩; have HB1 := Aside0.mk hb; clear hb) | (go_at_call 43; refine (H2.out _).mono ?_; rintro e w2 ⟨rfl, hb⟩; have HB2 := Aside0.mk hb; clear hb))
      go_ret3
      exact ⟨rfl, below_step HB1.out HB2.out⟩
    | true =>
      by_cases ht : t = []
      · rw [decide_eq_true ht] at hE3 ⊢
        simp only [Bool.true_and, Bool.not_false]
        go_enter Tryz.func31, Tryz.ntmps31
        go_wp2_with (first | (go_at_call 42; refine H1.out.mono ?_; rintro e w1 ⟨rfl, hb⟩; have HB1 := Aside0.mk hb; clear hb) | (go_at_call 43; refine (H2.out _).mono ?_; rintro e w2 ⟨rfl, hb⟩; have HB2 := Aside0.mk hb; clear hb) | (go_at_call 44; refine (H3.out _).mono ?_; rintro e w3 ⟨rfl, hb⟩; have HB3 := Aside0.mk hb; clear hb) | (go_at_call 45; refine (H4.out _).mono ?_; rintro e w4 ⟨rfl, hb⟩; have HB4 := Aside0.mk hb; clear hb))
        go_ret3
        exact ⟨rfl, below_step (below_step (below_step HB1.out HB2.out) HB3.out) HB4.out⟩
      · rw [decide_eq_false ht] at hE3 ⊢
        simp only [Bool.true_and, Bool.not_false, Bool.false_and]
        go_enter Tryz.func31, Tryz.ntmps31
        go_wp2_with (first | (go_at_call 42; refine H1.out.mono ?_; rintro e w1 ⟨rfl, hb⟩; have HB1 := Aside0.mk hb; clear hb) | (go_at_call 43; refine (H2.out _).mono ?_; rintro e w2 ⟨rfl, hb⟩; have HB2 := Aside0.mk hb; clear hb) | (go_at_call 44; refine (H3.out _).mono ?_; rintro e w3 ⟨rfl, hb⟩; have HB3 := Aside0.mk hb; clear hb))
        go_ret3
        exact ⟨rfl, below_step (below_step HB1.out HB2.out) HB3.out⟩
end Go.Proofs.YtomebmjjgkcjiaaGreatDoor.G
