-- Printed by a program of this session (wip/printx.py) out of the translation. Not trusted: Lean checks it.
import Derived.Test.YtomebmjjgkcjiaaGreatDoorPRfx0
namespace Go.Proofs.YtomebmjjgkcjiaaGreatDoor.PRf
open Go.RowKit Go.Proofs.YtomebmjjgkcjiaaGreatDoor.G Go.Proofs.YtomebmjjgkcjiaaGreatDoor.PUt Go.Proofs.YtomebmjjgkcjiaaGreatDoorW.PrintWords Go.Proofs.YtomebmjjgkcjiaaGreatDoorW.PrintLast Go.Proofs.YtomebmjjgkcjiaaGreatDoorW.PrintMore
attribute [local go_sem] max2_int min2_int max_two min_two max_three min_three max_four min_four   -- for this text's walks alone
set_option linter.unusedVariables false
set_option linter.unusedSimpArgs false

/-! ### parlanceref03_at: function 24 -/
def parlanceref03_at.f (l0 : List Int) (a1 : Int) (a2 : ByteArray) : Option (Bool) := if (wrap64 (a1 + (a2.size : Int))) ≤ (l0.length : Int) then (if 0 ≤ a1 then (if a1 ≤ (wrap64 (a1 + (a2.size : Int))) then (some ((strOfNums ((l0.take ((wrap64 (a1 + (a2.size : Int))) : Int).toNat).drop (a1 : Int).toNat)).toList == a2.toList)) else (none)) else (none)) else (some false)
set_option maxHeartbeats 8000000 in
set_option maxRecDepth 100000 in
theorem parlanceref03_at.calls (A0 : Option Addr) (c0 : Nat) (l0 : List Int) (a1 : Int) (a2 : ByteArray) (r : Bool) (w : World) (hr0 : Kd.C (Kd.int .u8) w A0 l0.length l0) (hc0 : l0.length ≤ c0) (h : parlanceref03_at.f l0 a1 a2 = some r) :
    Calls Tryz.prog 24 #[.slice A0 l0.length c0, .int .i64 a1, .string a2] w fun e w' => e = .returned (.bool r) ∧ Drawn0 w w' := by
  have HR0 := Aside0.mk hr0
  have HC0 := Aside0.mk hc0
  clear hr0 hc0
  have H : (if (wrap64 (a1 + (a2.size : Int))) ≤ (l0.length : Int) then (if 0 ≤ a1 then (if a1 ≤ (wrap64 (a1 + (a2.size : Int))) then (some ((strOfNums ((l0.take ((wrap64 (a1 + (a2.size : Int))) : Int).toNat).drop (a1 : Int).toNat)).toList == a2.toList)) else (none)) else (none)) else (some false)) = some r := h
  clear h
  by_cases c4 : (wrap64 (a1 + (a2.size : Int))) ≤ (l0.length : Int)
  · rw [if_pos c4] at H
    have c4b0 : decide ((wrap64 (a1 + (a2.size : Int))) ≤ (l0.length : Int)) = true := decide_eq_true c4
    clear c4
    by_cases c5 : 0 ≤ a1
    · rw [if_pos c5] at H
      have c5b0 := eq_true c5
      have c5b1 : decide (0 ≤ a1) = true := decide_eq_true c5
      clear c5
      by_cases c6 : a1 ≤ (wrap64 (a1 + (a2.size : Int)))
      · rw [if_pos c6] at H
        have c6b0 := eq_true c6
        have c6b1 : decide (a1 ≤ (wrap64 (a1 + (a2.size : Int)))) = true := decide_eq_true c6
        have c7b0 := eq_true (of_decide_eq_true (by first | (with_reducible assumption) | assumption) : (wrap64 (a1 + (a2.size : Int))) ≤ (l0.length : Int))
        obtain rfl := Option.some.inj H
        obtain ⟨i08, hi08, _, hsz8, _⟩ := info_parts info5
        obtain ⟨A8, hcut8, hA8, hC8⟩ := print_mid_of (P := Tryz.prog) (Value.int .u8) 0 27 5 .i64 .i64 Tryz.underlying27 hi08 hsz8 A0 c0 l0 a1 (wrap64 (a1 + (a2.size : Int))) (of_decide_eq_true (by first | (with_reducible assumption) | assumption)) (by first | omega | exact of_decide_eq_true (by first | (with_reducible assumption) | assumption)) (of_decide_eq_true (by first | (with_reducible assumption) | assumption)) HC0.out
        have HR101 := Aside0.mk (Kd.C_of_reads (h1 := fun _ => rfl) (hA8 _ (Kd.reads_of_C HR0.out)))
        have HC101 := Aside0.mk hC8
        clear hA8 hC8 hi08 hsz8
        have hcvn9 := Kd.C_string (P := Tryz.prog) (A := A8) (c := (c0 - a1.toNat)) Tryz.underlying27 Tryz.underlying5 Tryz.underlying9 HR101.out
        (try rw [show ((l0.take ((wrap64 (a1 + (a2.size : Int))) : Int).toNat).drop (a1 : Int).toNat).length = ((wrap64 (a1 + (a2.size : Int))) : Int).toNat - (a1 : Int).toNat from by rw [List.length_drop, List.length_take]; have hq_ : ((wrap64 (a1 + (a2.size : Int))) : Int) ≤ (l0.length : Int) := (of_decide_eq_true (by first | (with_reducible assumption) | assumption)); omega] at hcvn9)
        have hcvm9 := Kd.C_string (P := Tryz.prog) (A := A8) (c := (c0 - a1.toNat)) Tryz.underlying27 Tryz.underlying5 Tryz.underlying9 HR101.out
        (try rw [List.length_drop, List.length_take] at hcvm9)
        have hcv10 := Kd.C_string (P := Tryz.prog) (A := A8) (c := (c0 - a1.toNat)) Tryz.underlying27 Tryz.underlying5 Tryz.underlying9 HR101.out
        go_enter Tryz.func24, Tryz.ntmps24
        go_wp2
        go_ret
        exact ⟨by first | rfl | (simp; done) | (simp [*]; done), by repeat (first | exact Drawn0.refl _ | apply Drawn0.step)⟩
      · rw [if_neg c6] at H
        exact absurd H (by simp)
    · rw [if_neg c5] at H
      exact absurd H (by simp)
  · rw [if_neg c4] at H
    have c4b0 : decide ((wrap64 (a1 + (a2.size : Int))) ≤ (l0.length : Int)) = false := decide_eq_false c4
    clear c4
    obtain rfl := Option.some.inj H
    go_enter Tryz.func24, Tryz.ntmps24
    go_wp2
    go_ret
    exact ⟨by first | rfl | (simp; done) | (simp [*]; done), by repeat (first | exact Drawn0.refl _ | apply Drawn0.step)⟩

/-! ### parlanceref03_head: function 18 -/
mutual
def parlanceref03_head.j0 : Nat → List Int → Int → Option (Int)
  | 0, _, _ => none
  | k + 1, x0, x3 => parlanceref03_head.l0 k x0 x3 0
def parlanceref03_head.l0 : Nat → List Int → Int → Int → Option (Int)
  | 0, _, _, _ => none
  | k + 1, x0, x3, x4 => if x3 = 0 then (parlanceref03_head.j2 k x0 x3 x4 (decide (x4 < (x0.length : Int)))) else (parlanceref03_head.j2 k x0 x3 x4 false)
def parlanceref03_head.j2 : Nat → List Int → Int → Int → Bool → Option (Int)
  | 0, _, _, _, _ => none
  | k + 1, x0, x3, x4, x14 => if x14 = true then ((parlanceref03_at.f x0 x4 (⟨#[13, 10, 13, 10]⟩ : ByteArray)).bind fun t103 => (if t103 = true then (parlanceref03_head.l0 k x0 (wrap64 (x4 + 4)) (wrap64 (x4 + 1))) else (parlanceref03_head.l0 k x0 x3 (wrap64 (x4 + 1))))) else (if x3 > 0 then (parlanceref03_head.j3 k x0 x3 (decide (x3 ≤ 1024))) else (parlanceref03_head.j3 k x0 x3 false))
def parlanceref03_head.j3 : Nat → List Int → Int → Bool → Option (Int)
  | 0, _, _, _ => none
  | k + 1, x0, x3, x27 => if x27 = true then (some x3) else (if (x0.length : Int) ≥ 1024 then (some (-1)) else (some 0))
end
def parlanceref03_head.f (k : Nat) (l0 : List Int) : Option (Int) := (parlanceref03_at.f l0 0 (⟨#[13, 10]⟩ : ByteArray)).bind fun t102 => (if t102 = true then (parlanceref03_head.j0 k l0 2) else (parlanceref03_head.j0 k l0 0))
theorem parlanceref03_head.mono_l : ∀ k, (∀ y0 y1, LeO (parlanceref03_head.j0 k y0 y1) (parlanceref03_head.j0 (k + 1) y0 y1)) ∧ (∀ y0 y1 y2, LeO (parlanceref03_head.l0 k y0 y1 y2) (parlanceref03_head.l0 (k + 1) y0 y1 y2)) ∧ (∀ y0 y1 y2 y3, LeO (parlanceref03_head.j2 k y0 y1 y2 y3) (parlanceref03_head.j2 (k + 1) y0 y1 y2 y3)) ∧ (∀ y0 y1 y2, LeO (parlanceref03_head.j3 k y0 y1 y2) (parlanceref03_head.j3 (k + 1) y0 y1 y2))
  | 0 => ⟨fun _ _ r h => by simp [parlanceref03_head.j0] at h, fun _ _ _ r h => by simp [parlanceref03_head.l0] at h, fun _ _ _ _ r h => by simp [parlanceref03_head.j2] at h, fun _ _ _ r h => by simp [parlanceref03_head.j3] at h⟩
  | k + 1 => by
    obtain ⟨ih0, ih1, ih2, ih3⟩ := parlanceref03_head.mono_l k
    refine ⟨?_, ?_, ?_, ?_⟩
    · intro y0 y1
      unfold parlanceref03_head.j0
      repeat' first
      | (with_reducible exact ih0 _ _)
      | (with_reducible exact ih1 _ _ _)
      | (with_reducible exact ih2 _ _ _ _)
      | (with_reducible exact ih3 _ _ _)
      | (with_reducible exact LeO.refl _)
      | (with_reducible exact LeO.none _)
      | (with_reducible refine LeO.ite ?_ ?_)
      | (with_reducible refine LeO.bind ?_ (fun _ => ?_))
      | exact ih0 _ _
      | exact ih1 _ _ _
      | exact ih2 _ _ _ _
      | exact ih3 _ _ _
      | exact LeO.none _
      | refine LeO.ite ?_ ?_
      | refine LeO.bind ?_ (fun _ => ?_)
    · intro y0 y1 y2
      unfold parlanceref03_head.l0
      repeat' first
      | (with_reducible exact ih0 _ _)
      | (with_reducible exact ih1 _ _ _)
      | (with_reducible exact ih2 _ _ _ _)
      | (with_reducible exact ih3 _ _ _)
      | (with_reducible exact LeO.refl _)
      | (with_reducible exact LeO.none _)
      | (with_reducible refine LeO.ite ?_ ?_)
      | (with_reducible refine LeO.bind ?_ (fun _ => ?_))
      | exact ih0 _ _
      | exact ih1 _ _ _
      | exact ih2 _ _ _ _
      | exact ih3 _ _ _
      | exact LeO.none _
      | refine LeO.ite ?_ ?_
      | refine LeO.bind ?_ (fun _ => ?_)
    · intro y0 y1 y2 y3
      unfold parlanceref03_head.j2
      repeat' first
      | (with_reducible exact ih0 _ _)
      | (with_reducible exact ih1 _ _ _)
      | (with_reducible exact ih2 _ _ _ _)
      | (with_reducible exact ih3 _ _ _)
      | (with_reducible exact LeO.refl _)
      | (with_reducible exact LeO.none _)
      | (with_reducible refine LeO.ite ?_ ?_)
      | (with_reducible refine LeO.bind ?_ (fun _ => ?_))
      | exact ih0 _ _
      | exact ih1 _ _ _
      | exact ih2 _ _ _ _
      | exact ih3 _ _ _
      | exact LeO.none _
      | refine LeO.ite ?_ ?_
      | refine LeO.bind ?_ (fun _ => ?_)
    · intro y0 y1 y2
      unfold parlanceref03_head.j3
      repeat' first
      | (with_reducible exact ih0 _ _)
      | (with_reducible exact ih1 _ _ _)
      | (with_reducible exact ih2 _ _ _ _)
      | (with_reducible exact ih3 _ _ _)
      | (with_reducible exact LeO.refl _)
      | (with_reducible exact LeO.none _)
      | (with_reducible refine LeO.ite ?_ ?_)
      | (with_reducible refine LeO.bind ?_ (fun _ => ?_))
      | exact ih0 _ _
      | exact ih1 _ _ _
      | exact ih2 _ _ _ _
      | exact ih3 _ _ _
      | exact LeO.none _
      | refine LeO.ite ?_ ?_
      | refine LeO.bind ?_ (fun _ => ?_)
theorem parlanceref03_head.mono : ∀ a0 k, LeO (parlanceref03_head.f k a0) (parlanceref03_head.f (k + 1) a0) := by
  intro a0 k
  obtain ⟨ih0, ih1, ih2, ih3⟩ := parlanceref03_head.mono_l k
  unfold parlanceref03_head.f
  repeat' first
      | (with_reducible exact ih0 _ _)
      | (with_reducible exact ih1 _ _ _)
      | (with_reducible exact ih2 _ _ _ _)
      | (with_reducible exact ih3 _ _ _)
      | (with_reducible exact LeO.refl _)
      | (with_reducible exact LeO.none _)
      | (with_reducible refine LeO.ite ?_ ?_)
      | (with_reducible refine LeO.bind ?_ (fun _ => ?_))
      | exact ih0 _ _
      | exact ih1 _ _ _
      | exact ih2 _ _ _ _
      | exact ih3 _ _ _
      | exact LeO.none _
      | refine LeO.ite ?_ ?_
      | refine LeO.bind ?_ (fun _ => ?_)
set_option maxHeartbeats 8000000 in
set_option maxRecDepth 100000 in
theorem parlanceref03_head.calls (k : Nat) (A0 : Option Addr) (c0 : Nat) (l0 : List Int) (r : Int) (w : World) (hr0 : Kd.C (Kd.int .u8) w A0 l0.length l0) (hc0 : l0.length ≤ c0) (h : parlanceref03_head.f k l0 = some r) :
    Calls Tryz.prog 18 #[.slice A0 l0.length c0] w fun e w' => e = .returned (.int .i64 r) ∧ Drawn0 w w' := by
  have HR0 := Aside0.mk hr0
  have HC0 := Aside0.mk hc0
  clear hr0 hc0
  have H : ((parlanceref03_at.f l0 0 (⟨#[13, 10]⟩ : ByteArray)).bind fun t102 => (if t102 = true then (parlanceref03_head.j0 k l0 2) else (parlanceref03_head.j0 k l0 0))) = some r := h
  clear h
  replace H := Option.bind_eq_some_iff.mp H
  obtain ⟨t102, A20, H⟩ := H
  replace H : (if t102 = true then (parlanceref03_head.j0 k l0 2) else (parlanceref03_head.j0 k l0 0)) = some r := H
  have A2 := Aside0.mk A20
  clear A20
  have HC3 := Aside0.mk H
  clear H
  go_enter Tryz.func18, Tryz.ntmps18
  go_upto_if 6 with (first | ((with_reducible refine gate_callee (f := 24) rfl ?_); refine goesL_ (some 6) rfl rfl Tryz.func24 (by kernel_rfl) rfl #[.slice A0 l0.length c0, .int .i64 0, .string (⟨#[13, 10]⟩ : ByteArray)] rfl (by (try simp only [List.map_toArray, List.map_cons, List.map_nil]); first | done | rfl | (simp only [List.length_drop, List.length_take]; rfl)) ?_; (with_reducible refine (parlanceref03_at.calls _ _ l0 0 (⟨#[13, 10]⟩ : ByteArray) t102 _ ?side1 ?side2 A2.out).mono ?_); (case side1 => repeat (first | exact HR0.out | (with_reducible refine Kd.C_alloc ?_ _) | (with_reducible refine Kd.C_drewN ?_ _) | (with_reducible refine Kd.C_drew ?_))); (case side2 => exact HC0.out); rintro e w' ⟨rfl, ⟨nd, rfl⟩⟩; refine ⟨_, rfl, ?_⟩))
  (try simp only [Act.put, List.setIfInBounds_toArray, List.set_cons_zero, List.set_cons_succ])
  go_cut [3] (fun v3 wc => ∃ (kq : Nat) (x3_2 : Int), v3 = .int .i64 x3_2 ∧ Aside0 (parlanceref03_head.j0 kq l0 x3_2 = some r) ∧ Aside0 (kq ≤ k) ∧ Drawn0 w wc)
  case first =>
    have H := HC3.out
    clear HC3
    by_cases c4 : t102 = true
    · subst c4
      have H1 : (parlanceref03_head.j0 k l0 2) = some r := by rw [if_pos rfl] at H; exact H
      clear H
      have H := H1
      clear H1
      have H' := Aside0.mk H
      clear H
      go_wp2
      go_meet
      case rel => exact ⟨_, (2), (by first | rfl | (simp; done) | (simp [*]; done)), H', ⟨by first | omega | exact Nat.le_refl _⟩, by repeat (first | exact Drawn0.refl _ | apply Drawn0.step)⟩
    · replace c4 := Bool.eq_false_iff.mpr c4
      subst c4
      have H1 : (parlanceref03_head.j0 k l0 0) = some r := by rw [if_neg (show ¬ (false = true) by decide)] at H; exact H
      clear H
      have H := H1
      clear H1
      have H' := Aside0.mk H
      clear H
      go_wp2
      go_meet
      case rel => exact ⟨_, (0), (by first | rfl | (simp; done) | (simp [*]; done)), H', ⟨by first | omega | exact Nat.le_refl _⟩, by repeat (first | exact Drawn0.refl _ | apply Drawn0.step)⟩
  case rest =>
    clear HC3
    try clear c1
    try clear c2
    try clear p2
    try clear c4
    obtain ⟨kq, x3_2, rfl, HA, HJ2, ⟨mc2, rfl⟩⟩ := hcut
    cases kq with
    | zero => exact absurd HA.out (by simp [parlanceref03_head.j0])
    | succ kj2 =>
      have H := HA.out
      clear HA
      simp only [parlanceref03_head.j0] at H
      have H' := Aside0.mk H
      clear H
      go_wp2
      go_loopg [3, 4] kj2 (fun kq v3 v4 w' => ∃ (x3_2 : Int) (x4_2 : Int), v3 = .int .i64 x3_2 ∧ v4 = .int .i64 x4_2 ∧ Aside0 (parlanceref03_head.l0 kq l0 x3_2 x4_2 = some r) ∧ Aside0 (kq ≤ kj2) ∧ Drawn0 w w')
      case atStart => exact ⟨(x3_2), (0), (by first | rfl | (simp; done) | (simp [*]; done)), (by first | rfl | (simp; done) | (simp [*]; done)), H', ⟨Nat.le_refl _⟩, by repeat (first | exact Drawn0.refl _ | apply Drawn0.step)⟩
      case round =>
        clear H'
        try clear c1
        try clear c2
        try clear p2
        try clear c4
        try clear p2
        obtain ⟨x3_2, x4_2, rfl, rfl, HA, HK2, ⟨m2, rfl⟩⟩ := hrel
        cases gk with
        | zero => exact absurd HA.out (by simp [parlanceref03_head.l0])
        | succ k2 =>
          have H := HA.out
          clear HA
          simp only [parlanceref03_head.l0] at H
          have HC5 := Aside0.mk H
          clear H
          go_upto_region 5 with (fail)
          go_cut [14] (fun v14 wc => ∃ (kq : Nat) (x14_4 : Bool), v14 = .bool x14_4 ∧ Aside0 (parlanceref03_head.j2 kq l0 x3_2 x4_2 x14_4 = some r) ∧ Aside0 (kq ≤ k2) ∧ Drawn0 w wc)
          case first =>
            have H := HC5.out
            clear HC5
            by_cases c6 : x3_2 = 0
            · rw [if_pos c6] at H
              have c6b0 : (x3_2 == 0) = true := beq_iff_eq.mpr c6
              have c6b1 : (x3_2 != 0) = false := bne_eq_false_iff_eq.mpr c6
              clear c6
              (first | rw [c6b0] | (simp only [i64_w, i32_w]; rw [c6b0]) | skip)
              have H' := Aside0.mk H
              clear H
              go_wp2
              go_meet
              case rel => exact ⟨_, (decide (x4_2 < (l0.length : Int))), (by first | rfl | (simp; done) | (simp [*]; done)), H', ⟨by have := HJ2.out; have := HK2.out; first | omega | exact Nat.le_refl _⟩, by repeat (first | exact Drawn0.refl _ | apply Drawn0.step)⟩
            · rw [if_neg c6] at H
              have c6b0 : (x3_2 == 0) = false := beq_eq_false_iff_ne.mpr c6
              have c6b1 : (x3_2 != 0) = true := bne_iff_ne.mpr c6
              (first | rw [c6b0] | (simp only [i64_w, i32_w]; rw [c6b0]) | skip)
              have H' := Aside0.mk H
              clear H
              go_wp2
              go_meet
              case rel => exact ⟨_, (false), (by first | rfl | (simp; done) | (simp [*]; done)), H', ⟨by have := HJ2.out; have := HK2.out; first | omega | exact Nat.le_refl _⟩, by repeat (first | exact Drawn0.refl _ | apply Drawn0.step)⟩
          case rest =>
            clear HC5
            try clear c1
            try clear c2
            try clear p2
            try clear c4
            try clear c6
            try clear c6b0
            try clear c6b1
            try clear p2
            obtain ⟨kq, x14_4, rfl, HA, HJ4, ⟨mc4, rfl⟩⟩ := hcut
            cases kq with
            | zero => exact absurd HA.out (by simp [parlanceref03_head.j2])
            | succ kj4 =>
              have H := HA.out
              clear HA
              simp only [parlanceref03_head.j2] at H
              by_cases c7 : x14_4 = true
              · subst c7
                have H1 : ((parlanceref03_at.f l0 x4_2 (⟨#[13, 10, 13, 10]⟩ : ByteArray)).bind fun t103 => (if t103 = true then (parlanceref03_head.l0 kj4 l0 (wrap64 (x4_2 + 4)) (wrap64 (x4_2 + 1))) else (parlanceref03_head.l0 kj4 l0 x3_2 (wrap64 (x4_2 + 1))))) = some r := by rw [if_pos rfl] at H; exact H
                clear H
                have H := H1
                clear H1
                replace H := Option.bind_eq_some_iff.mp H
                obtain ⟨t103, A80, H⟩ := H
                replace H : (if t103 = true then (parlanceref03_head.l0 kj4 l0 (wrap64 (x4_2 + 4)) (wrap64 (x4_2 + 1))) else (parlanceref03_head.l0 kj4 l0 x3_2 (wrap64 (x4_2 + 1)))) = some r := H
                have A8 := Aside0.mk A80
                clear A80
                by_cases c9 : t103 = true
                · subst c9
                  have H1 : (parlanceref03_head.l0 kj4 l0 (wrap64 (x4_2 + 4)) (wrap64 (x4_2 + 1))) = some r := by rw [if_pos rfl] at H; exact H
                  clear H
                  have H := H1
                  clear H1
                  have H' := Aside0.mk H
                  clear H
                  go_wp2_with (first | ((with_reducible refine gate_callee (f := 24) rfl ?_); refine goesL_ (some 19) rfl rfl Tryz.func24 (by kernel_rfl) rfl #[.slice A0 l0.length c0, .int .i64 x4_2, .string (⟨#[13, 10, 13, 10]⟩ : ByteArray)] rfl (by (try simp only [List.map_toArray, List.map_cons, List.map_nil]); first | done | rfl | (simp only [List.length_drop, List.length_take]; rfl)) ?_; (with_reducible refine (parlanceref03_at.calls _ _ l0 x4_2 (⟨#[13, 10, 13, 10]⟩ : ByteArray) true _ ?side1 ?side2 A8.out).mono ?_); (case side1 => repeat (first | exact HR0.out | (with_reducible refine Kd.C_alloc ?_ _) | (with_reducible refine Kd.C_drewN ?_ _) | (with_reducible refine Kd.C_drew ?_))); (case side2 => exact HC0.out); rintro e w' ⟨rfl, ⟨nd, rfl⟩⟩; refine ⟨_, rfl, ?_⟩))
                  go_roundg kj4
                  case measure => have := HJ2.out; have := HK2.out; have := HJ4.out; omega
                  case rel => exact ⟨(wrap64 (x4_2 + 4)), (wrap64 (x4_2 + 1)), (by first | rfl | (simp; done) | (simp [*]; done)), (by first | rfl | (simp; done) | (simp [*]; done)), H', ⟨by have := HJ2.out; have := HK2.out; have := HJ4.out; omega⟩, by repeat (first | exact Drawn0.refl _ | apply Drawn0.step)⟩
                · replace c9 := Bool.eq_false_iff.mpr c9
                  subst c9
                  have H1 : (parlanceref03_head.l0 kj4 l0 x3_2 (wrap64 (x4_2 + 1))) = some r := by rw [if_neg (show ¬ (false = true) by decide)] at H; exact H
                  clear H
                  have H := H1
                  clear H1
                  have H' := Aside0.mk H
                  clear H
                  go_wp2_with (first | ((with_reducible refine gate_callee (f := 24) rfl ?_); refine goesL_ (some 19) rfl rfl Tryz.func24 (by kernel_rfl) rfl #[.slice A0 l0.length c0, .int .i64 x4_2, .string (⟨#[13, 10, 13, 10]⟩ : ByteArray)] rfl (by (try simp only [List.map_toArray, List.map_cons, List.map_nil]); first | done | rfl | (simp only [List.length_drop, List.length_take]; rfl)) ?_; (with_reducible refine (parlanceref03_at.calls _ _ l0 x4_2 (⟨#[13, 10, 13, 10]⟩ : ByteArray) false _ ?side1 ?side2 A8.out).mono ?_); (case side1 => repeat (first | exact HR0.out | (with_reducible refine Kd.C_alloc ?_ _) | (with_reducible refine Kd.C_drewN ?_ _) | (with_reducible refine Kd.C_drew ?_))); (case side2 => exact HC0.out); rintro e w' ⟨rfl, ⟨nd, rfl⟩⟩; refine ⟨_, rfl, ?_⟩))
                  go_roundg kj4
                  case measure => have := HJ2.out; have := HK2.out; have := HJ4.out; omega
                  case rel => exact ⟨(x3_2), (wrap64 (x4_2 + 1)), (by first | rfl | (simp; done) | (simp [*]; done)), (by first | rfl | (simp; done) | (simp [*]; done)), H', ⟨by have := HJ2.out; have := HK2.out; have := HJ4.out; omega⟩, by repeat (first | exact Drawn0.refl _ | apply Drawn0.step)⟩
              · replace c7 := Bool.eq_false_iff.mpr c7
                subst c7
                have H1 : (if x3_2 > 0 then (parlanceref03_head.j3 kj4 l0 x3_2 (decide (x3_2 ≤ 1024))) else (parlanceref03_head.j3 kj4 l0 x3_2 false)) = some r := by rw [if_neg (show ¬ (false = true) by decide)] at H; exact H
                clear H
                have H := H1
                clear H1
                have HC10 := Aside0.mk H
                clear H
                go_upto_region 9 with (fail)
                go_cut [27] (fun v27 wc => ∃ (kq : Nat) (x27_9 : Bool), v27 = .bool x27_9 ∧ Aside0 (parlanceref03_head.j3 kq l0 x3_2 x27_9 = some r) ∧ Aside0 (kq ≤ kj4) ∧ Drawn0 w wc)
                case first =>
                  have H := HC10.out
                  clear HC10
                  by_cases c11 : x3_2 > 0
                  · rw [if_pos c11] at H
                    have c11b0 : decide (0 < x3_2) = true := decide_eq_true c11
                    clear c11
                    (first | rw [c11b0] | (simp only [i64_w, i32_w]; rw [c11b0]) | skip)
                    have H' := Aside0.mk H
                    clear H
                    go_wp2
                    go_meet
                    case rel => exact ⟨_, (decide (x3_2 ≤ 1024)), (by first | rfl | (simp; done) | (simp [*]; done)), H', ⟨by have := HJ2.out; have := HK2.out; have := HJ4.out; first | omega | exact Nat.le_refl _⟩, by repeat (first | exact Drawn0.refl _ | apply Drawn0.step)⟩
                  · rw [if_neg c11] at H
                    have c11b0 : decide (0 < x3_2) = false := decide_eq_false c11
                    clear c11
                    (first | rw [c11b0] | (simp only [i64_w, i32_w]; rw [c11b0]) | skip)
                    have H' := Aside0.mk H
                    clear H
                    go_wp2
                    go_meet
                    case rel => exact ⟨_, (false), (by first | rfl | (simp; done) | (simp [*]; done)), H', ⟨by have := HJ2.out; have := HK2.out; have := HJ4.out; first | omega | exact Nat.le_refl _⟩, by repeat (first | exact Drawn0.refl _ | apply Drawn0.step)⟩
                case rest =>
                  clear HC10
                  try clear c1
                  try clear c2
                  try clear p2
                  try clear c4
                  try clear c6
                  try clear c6b0
                  try clear c6b1
                  try clear p6
                  try clear c7
                  try clear c9
                  try clear c11
                  try clear c11b0
                  try clear p2
                  obtain ⟨kq, x27_9, rfl, HA, HJ9, ⟨mc9, rfl⟩⟩ := hcut
                  cases kq with
                  | zero => exact absurd HA.out (by simp [parlanceref03_head.j3])
                  | succ kj9 =>
                    have H := HA.out
                    clear HA
                    simp only [parlanceref03_head.j3] at H
                    by_cases c12 : x27_9 = true
                    · subst c12
                      have H1 : (some x3_2) = some r := by rw [if_pos rfl] at H; exact H
                      clear H
                      have H := H1
                      clear H1
                      obtain rfl := Option.some.inj H
                      go_wp2
                      go_ret
                      exact ⟨by first | rfl | (simp; done) | (simp [*]; done), by repeat (first | exact Drawn0.refl _ | apply Drawn0.step)⟩
                    · replace c12 := Bool.eq_false_iff.mpr c12
                      subst c12
                      have H1 : (if (l0.length : Int) ≥ 1024 then (some (-1)) else (some 0)) = some r := by rw [if_neg (show ¬ (false = true) by decide)] at H; exact H
                      clear H
                      have H := H1
                      clear H1
                      by_cases c13 : (l0.length : Int) ≥ 1024
                      · rw [if_pos c13] at H
                        have c13b0 : decide (1024 ≤ (l0.length : Int)) = true := decide_eq_true c13
                        have c13b1 : decide (1024 ≤ l0.length) = true := decide_eq_true (by omega)
                        clear c13
                        obtain rfl := Option.some.inj H
                        go_wp2
                        go_ret
                        exact ⟨by first | rfl | (simp; done) | (simp [*]; done), by repeat (first | exact Drawn0.refl _ | apply Drawn0.step)⟩
                      · rw [if_neg c13] at H
                        have c13b0 : decide (1024 ≤ (l0.length : Int)) = false := decide_eq_false c13
                        have c13b1 : decide (1024 ≤ l0.length) = false := decide_eq_false (by omega)
                        clear c13
                        obtain rfl := Option.some.inj H
                        go_wp2
                        go_ret
                        exact ⟨by first | rfl | (simp; done) | (simp [*]; done), by repeat (first | exact Drawn0.refl _ | apply Drawn0.step)⟩

/-! ### parlanceref03_folded: function 33 -/
def parlanceref03_folded.f (a0 : Int) : Option (Int) := if a0 ≥ 65 then (if a0 ≤ 90 then (some ((a0 + 32) % 256)) else (some a0)) else (some a0)
set_option maxHeartbeats 8000000 in
set_option maxRecDepth 100000 in
theorem parlanceref03_folded.calls (a0 : Int) (r : Int) (w : World) (h : parlanceref03_folded.f a0 = some r) :
    Calls Tryz.prog 33 #[.int .u8 a0] w fun e w' => e = .returned (.int .u8 r) ∧ Drawn0 w w' := by
  have H : (if a0 ≥ 65 then (if a0 ≤ 90 then (some ((a0 + 32) % 256)) else (some a0)) else (some a0)) = some r := h
  clear h
  by_cases c2 : a0 ≥ 65
  · rw [if_pos c2] at H
    have c2b0 : decide (65 ≤ a0) = true := decide_eq_true c2
    clear c2
    by_cases c3 : a0 ≤ 90
    · rw [if_pos c3] at H
      have c3b0 : decide (a0 ≤ 90) = true := decide_eq_true c3
      clear c3
      obtain rfl := Option.some.inj H
      go_enter Tryz.func33, Tryz.ntmps33
      go_wp2
      go_ret
      exact ⟨by first | rfl | (simp; done) | (simp [*]; done), by repeat (first | exact Drawn0.refl _ | apply Drawn0.step)⟩
    · rw [if_neg c3] at H
      have c3b0 : decide (a0 ≤ 90) = false := decide_eq_false c3
      clear c3
      obtain rfl := Option.some.inj H
      go_enter Tryz.func33, Tryz.ntmps33
      go_wp2
      go_ret
      exact ⟨by first | rfl | (simp; done) | (simp [*]; done), by repeat (first | exact Drawn0.refl _ | apply Drawn0.step)⟩
  · rw [if_neg c2] at H
    have c2b0 : decide (65 ≤ a0) = false := decide_eq_false c2
    clear c2
    obtain rfl := Option.some.inj H
    go_enter Tryz.func33, Tryz.ntmps33
    go_wp2
    go_ret
    exact ⟨by first | rfl | (simp; done) | (simp [*]; done), by repeat (first | exact Drawn0.refl _ | apply Drawn0.step)⟩

/-! ### parlanceref03_field: function 25 -/
mutual
def parlanceref03_field.j1 : Nat → List Int → Int → List Int → Option (Int)
  | 0, _, _, _ => none
  | k + 1, x0, x3, x4 => if x3 = 0 then (parlanceref03_field.j2 k x0 x3 x4 true) else (if x3 = (x0.length : Int) then (parlanceref03_field.j2 k x0 x3 x4 true) else (if 0 ≤ x3 then (if x3 < (x0.length : Int) then (parlanceref03_field.j2 k x0 x3 x4 ((rd x0 x3) != 58)) else (none)) else (none)))
def parlanceref03_field.j2 : Nat → List Int → Int → List Int → Bool → Option (Int)
  | 0, _, _, _, _ => none
  | k + 1, x0, x3, x4, x61 => if x61 = true then (some (-2)) else (if 0 ≤ (wrap64 (x3 + 1)) then (if (wrap64 (x3 + 1)) ≤ (x0.length : Int) then (parlanceref03_field.l1 k x4 (x0.drop ((wrap64 (x3 + 1)) : Int).toNat) 0) else (none)) else (none))
def parlanceref03_field.l1 : Nat → List Int → List Int → Int → Option (Int)
  | 0, _, _, _ => none
  | k + 1, x4, x5, x6 => if x6 < (x5.length : Int) then (if 0 ≤ x6 then (if (rd x5 x6) = 13 then (some (-2)) else (if (rd x5 x6) = 10 then (some (-2)) else (parlanceref03_field.l1 k x4 x5 (wrap64 (x6 + 1))))) else (none)) else (if (strOfNums x4).toList = ([99, 111, 110, 116, 101, 110, 116, 45, 108, 101, 110, 103, 116, 104] : List UInt8) then (parlanceref03_field.l2 k x5) else (some (-1)))
def parlanceref03_field.j5 : Nat → List Int → Option (Int)
  | 0, _ => none
  | k + 1, x5 => parlanceref03_field.l3 k x5
def parlanceref03_field.j7 : Nat → List Int → Option (Int)
  | 0, _ => none
  | k + 1, x5 => if (x5.length : Int) < 1 then (parlanceref03_field.j8 k x5 true) else (parlanceref03_field.j8 k x5 (decide ((x5.length : Int) > 6)))
def parlanceref03_field.j8 : Nat → List Int → Bool → Option (Int)
  | 0, _, _ => none
  | k + 1, x5, x137 => if x137 = true then (some (-2)) else (parlanceref03_field.l4 k x5 0 0)
def parlanceref03_field.l4 : Nat → List Int → Int → Int → Option (Int)
  | 0, _, _, _ => none
  | k + 1, x5, x7, x8 => if x8 < (x5.length : Int) then (if 0 ≤ x8 then (if (rd x5 x8) < 48 then (some (-2)) else (if (rd x5 x8) > 57 then (some (-2)) else (parlanceref03_field.l4 k x5 (wrap64 ((wrap64 ((wrap64 (x7 * 10)) + (wrap64 (rd x5 x8)))) - 48)) (wrap64 (x8 + 1))))) else (none)) else (some x7)
def parlanceref03_field.l3 : Nat → List Int → Option (Int)
  | 0, _ => none
  | k + 1, x5 => if (x5.length : Int) > 0 then (if 0 ≤ (wrap64 ((x5.length : Int) - 1)) then (if (wrap64 ((x5.length : Int) - 1)) < (x5.length : Int) then (if (rd x5 (wrap64 ((x5.length : Int) - 1))) = 32 then (if (wrap64 ((x5.length : Int) - 1)) ≤ (x5.length : Int) then (parlanceref03_field.l3 k (x5.take ((wrap64 ((x5.length : Int) - 1)) : Int).toNat)) else (none)) else (if (rd x5 (wrap64 ((x5.length : Int) - 1))) = 9 then (if (wrap64 ((x5.length : Int) - 1)) ≤ (x5.length : Int) then (parlanceref03_field.l3 k (x5.take ((wrap64 ((x5.length : Int) - 1)) : Int).toNat)) else (none)) else (parlanceref03_field.j7 k x5))) else (none)) else (none)) else (parlanceref03_field.j7 k x5)
def parlanceref03_field.l2 : Nat → List Int → Option (Int)
  | 0, _ => none
  | k + 1, x5 => if (x5.length : Int) > 0 then (if 0 < (x5.length : Int) then (if (rd x5 0) = 32 then (if 1 ≤ (x5.length : Int) then (parlanceref03_field.l2 k (x5.drop 1)) else (none)) else (if (rd x5 0) = 9 then (if 1 ≤ (x5.length : Int) then (parlanceref03_field.l2 k (x5.drop 1)) else (none)) else (parlanceref03_field.j5 k x5))) else (none)) else (parlanceref03_field.j5 k x5)
def parlanceref03_field.l0 : Nat → List Int → Int → List Int → Option (Int)
  | 0, _, _, _ => none
  | k + 1, x0, x3, x4 => if x3 < (x0.length : Int) then (if 0 ≤ x3 then ((parlanceref03_folded.f (rd x0 x3)).bind fun t108 => (if t108 ≥ 97 then ((parlanceref03_folded.f (rd x0 x3)).bind fun t110 => (if t110 ≤ 122 then ((parlanceref03_folded.f (rd x0 x3)).bind fun t112 => (if x4.length < 140737488355328 then (parlanceref03_field.l0 k x0 (wrap64 (x3 + 1)) (x4 ++ [t112])) else (none))) else (if (rd x0 x3) = 45 then ((parlanceref03_folded.f (rd x0 x3)).bind fun t118 => (if x4.length < 140737488355328 then (parlanceref03_field.l0 k x0 (wrap64 (x3 + 1)) (x4 ++ [t118])) else (none))) else (parlanceref03_field.j1 k x0 x3 x4)))) else (if (rd x0 x3) = 45 then ((parlanceref03_folded.f (rd x0 x3)).bind fun t124 => (if x4.length < 140737488355328 then (parlanceref03_field.l0 k x0 (wrap64 (x3 + 1)) (x4 ++ [t124])) else (none))) else (parlanceref03_field.j1 k x0 x3 x4)))) else (none)) else (parlanceref03_field.j1 k x0 x3 x4)
end
def parlanceref03_field.f (k : Nat) (l0 : List Int) : Option (Int) := parlanceref03_field.l0 k l0 0 (([] : List Int))
theorem parlanceref03_field.mono_l : ∀ k, (∀ y0 y1 y2, LeO (parlanceref03_field.j1 k y0 y1 y2) (parlanceref03_field.j1 (k + 1) y0 y1 y2)) ∧ (∀ y0 y1 y2 y3, LeO (parlanceref03_field.j2 k y0 y1 y2 y3) (parlanceref03_field.j2 (k + 1) y0 y1 y2 y3)) ∧ (∀ y0 y1 y2, LeO (parlanceref03_field.l1 k y0 y1 y2) (parlanceref03_field.l1 (k + 1) y0 y1 y2)) ∧ (∀ y0, LeO (parlanceref03_field.j5 k y0) (parlanceref03_field.j5 (k + 1) y0)) ∧ (∀ y0, LeO (parlanceref03_field.j7 k y0) (parlanceref03_field.j7 (k + 1) y0)) ∧ (∀ y0 y1, LeO (parlanceref03_field.j8 k y0 y1) (parlanceref03_field.j8 (k + 1) y0 y1)) ∧ (∀ y0 y1 y2, LeO (parlanceref03_field.l4 k y0 y1 y2) (parlanceref03_field.l4 (k + 1) y0 y1 y2)) ∧ (∀ y0, LeO (parlanceref03_field.l3 k y0) (parlanceref03_field.l3 (k + 1) y0)) ∧ (∀ y0, LeO (parlanceref03_field.l2 k y0) (parlanceref03_field.l2 (k + 1) y0)) ∧ (∀ y0 y1 y2, LeO (parlanceref03_field.l0 k y0 y1 y2) (parlanceref03_field.l0 (k + 1) y0 y1 y2))
  | 0 => ⟨fun _ _ _ r h => by simp [parlanceref03_field.j1] at h, fun _ _ _ _ r h => by simp [parlanceref03_field.j2] at h, fun _ _ _ r h => by simp [parlanceref03_field.l1] at h, fun _ r h => by simp [parlanceref03_field.j5] at h, fun _ r h => by simp [parlanceref03_field.j7] at h, fun _ _ r h => by simp [parlanceref03_field.j8] at h, fun _ _ _ r h => by simp [parlanceref03_field.l4] at h, fun _ r h => by simp [parlanceref03_field.l3] at h, fun _ r h => by simp [parlanceref03_field.l2] at h, fun _ _ _ r h => by simp [parlanceref03_field.l0] at h⟩
  | k + 1 => by
    obtain ⟨ih0, ih1, ih2, ih3, ih4, ih5, ih6, ih7, ih8, ih9⟩ := parlanceref03_field.mono_l k
    refine ⟨?_, ?_, ?_, ?_, ?_, ?_, ?_, ?_, ?_, ?_⟩
    · intro y0 y1 y2
      unfold parlanceref03_field.j1
      repeat' first
      | (with_reducible exact ih0 _ _ _)
      | (with_reducible exact ih1 _ _ _ _)
      | (with_reducible exact ih2 _ _ _)
      | (with_reducible exact ih3 _)
      | (with_reducible exact ih4 _)
      | (with_reducible exact ih5 _ _)
      | (with_reducible exact ih6 _ _ _)
      | (with_reducible exact ih7 _)
      | (with_reducible exact ih8 _)
      | (with_reducible exact ih9 _ _ _)
      | (with_reducible exact LeO.refl _)
      | (with_reducible exact LeO.none _)
      | (with_reducible refine LeO.ite ?_ ?_)
      | (with_reducible refine LeO.bind ?_ (fun _ => ?_))
      | exact ih0 _ _ _
      | exact ih1 _ _ _ _
      | exact ih2 _ _ _
      | exact ih3 _
      | exact ih4 _
      | exact ih5 _ _
      | exact ih6 _ _ _
      | exact ih7 _
      | exact ih8 _
      | exact ih9 _ _ _
      | exact LeO.none _
      | refine LeO.ite ?_ ?_
      | refine LeO.bind ?_ (fun _ => ?_)
    · intro y0 y1 y2 y3
      unfold parlanceref03_field.j2
      repeat' first
      | (with_reducible exact ih0 _ _ _)
      | (with_reducible exact ih1 _ _ _ _)
      | (with_reducible exact ih2 _ _ _)
      | (with_reducible exact ih3 _)
      | (with_reducible exact ih4 _)
      | (with_reducible exact ih5 _ _)
      | (with_reducible exact ih6 _ _ _)
      | (with_reducible exact ih7 _)
      | (with_reducible exact ih8 _)
      | (with_reducible exact ih9 _ _ _)
      | (with_reducible exact LeO.refl _)
      | (with_reducible exact LeO.none _)
      | (with_reducible refine LeO.ite ?_ ?_)
      | (with_reducible refine LeO.bind ?_ (fun _ => ?_))
      | exact ih0 _ _ _
      | exact ih1 _ _ _ _
      | exact ih2 _ _ _
      | exact ih3 _
      | exact ih4 _
      | exact ih5 _ _
      | exact ih6 _ _ _
      | exact ih7 _
      | exact ih8 _
      | exact ih9 _ _ _
      | exact LeO.none _
      | refine LeO.ite ?_ ?_
      | refine LeO.bind ?_ (fun _ => ?_)
    · intro y0 y1 y2
      unfold parlanceref03_field.l1
      repeat' first
      | (with_reducible exact ih0 _ _ _)
      | (with_reducible exact ih1 _ _ _ _)
      | (with_reducible exact ih2 _ _ _)
      | (with_reducible exact ih3 _)
      | (with_reducible exact ih4 _)
      | (with_reducible exact ih5 _ _)
      | (with_reducible exact ih6 _ _ _)
      | (with_reducible exact ih7 _)
      | (with_reducible exact ih8 _)
      | (with_reducible exact ih9 _ _ _)
      | (with_reducible exact LeO.refl _)
      | (with_reducible exact LeO.none _)
      | (with_reducible refine LeO.ite ?_ ?_)
      | (with_reducible refine LeO.bind ?_ (fun _ => ?_))
      | exact ih0 _ _ _
      | exact ih1 _ _ _ _
      | exact ih2 _ _ _
      | exact ih3 _
      | exact ih4 _
      | exact ih5 _ _
      | exact ih6 _ _ _
      | exact ih7 _
      | exact ih8 _
      | exact ih9 _ _ _
      | exact LeO.none _
      | refine LeO.ite ?_ ?_
      | refine LeO.bind ?_ (fun _ => ?_)
    · intro y0
      unfold parlanceref03_field.j5
      repeat' first
      | (with_reducible exact ih0 _ _ _)
      | (with_reducible exact ih1 _ _ _ _)
      | (with_reducible exact ih2 _ _ _)
      | (with_reducible exact ih3 _)
      | (with_reducible exact ih4 _)
      | (with_reducible exact ih5 _ _)
      | (with_reducible exact ih6 _ _ _)
      | (with_reducible exact ih7 _)
      | (with_reducible exact ih8 _)
      | (with_reducible exact ih9 _ _ _)
      | (with_reducible exact LeO.refl _)
      | (with_reducible exact LeO.none _)
      | (with_reducible refine LeO.ite ?_ ?_)
      | (with_reducible refine LeO.bind ?_ (fun _ => ?_))
      | exact ih0 _ _ _
      | exact ih1 _ _ _ _
      | exact ih2 _ _ _
      | exact ih3 _
      | exact ih4 _
      | exact ih5 _ _
      | exact ih6 _ _ _
      | exact ih7 _
      | exact ih8 _
      | exact ih9 _ _ _
      | exact LeO.none _
      | refine LeO.ite ?_ ?_
      | refine LeO.bind ?_ (fun _ => ?_)
    · intro y0
      unfold parlanceref03_field.j7
      repeat' first
      | (with_reducible exact ih0 _ _ _)
      | (with_reducible exact ih1 _ _ _ _)
      | (with_reducible exact ih2 _ _ _)
      | (with_reducible exact ih3 _)
      | (with_reducible exact ih4 _)
      | (with_reducible exact ih5 _ _)
      | (with_reducible exact ih6 _ _ _)
      | (with_reducible exact ih7 _)
      | (with_reducible exact ih8 _)
      | (with_reducible exact ih9 _ _ _)
      | (with_reducible exact LeO.refl _)
      | (with_reducible exact LeO.none _)
      | (with_reducible refine LeO.ite ?_ ?_)
      | (with_reducible refine LeO.bind ?_ (fun _ => ?_))
      | exact ih0 _ _ _
      | exact ih1 _ _ _ _
      | exact ih2 _ _ _
      | exact ih3 _
      | exact ih4 _
      | exact ih5 _ _
      | exact ih6 _ _ _
      | exact ih7 _
      | exact ih8 _
      | exact ih9 _ _ _
      | exact LeO.none _
      | refine LeO.ite ?_ ?_
      | refine LeO.bind ?_ (fun _ => ?_)
    · intro y0 y1
      unfold parlanceref03_field.j8
      repeat' first
      | (with_reducible exact ih0 _ _ _)
      | (with_reducible exact ih1 _ _ _ _)
      | (with_reducible exact ih2 _ _ _)
      | (with_reducible exact ih3 _)
      | (with_reducible exact ih4 _)
      | (with_reducible exact ih5 _ _)
      | (with_reducible exact ih6 _ _ _)
      | (with_reducible exact ih7 _)
      | (with_reducible exact ih8 _)
      | (with_reducible exact ih9 _ _ _)
      | (with_reducible exact LeO.refl _)
      | (with_reducible exact LeO.none _)
      | (with_reducible refine LeO.ite ?_ ?_)
      | (with_reducible refine LeO.bind ?_ (fun _ => ?_))
      | exact ih0 _ _ _
      | exact ih1 _ _ _ _
      | exact ih2 _ _ _
      | exact ih3 _
      | exact ih4 _
      | exact ih5 _ _
      | exact ih6 _ _ _
      | exact ih7 _
      | exact ih8 _
      | exact ih9 _ _ _
      | exact LeO.none _
      | refine LeO.ite ?_ ?_
      | refine LeO.bind ?_ (fun _ => ?_)
    · intro y0 y1 y2
      unfold parlanceref03_field.l4
      repeat' first
      | (with_reducible exact ih0 _ _ _)
      | (with_reducible exact ih1 _ _ _ _)
      | (with_reducible exact ih2 _ _ _)
      | (with_reducible exact ih3 _)
      | (with_reducible exact ih4 _)
      | (with_reducible exact ih5 _ _)
      | (with_reducible exact ih6 _ _ _)
      | (with_reducible exact ih7 _)
      | (with_reducible exact ih8 _)
      | (with_reducible exact ih9 _ _ _)
      | (with_reducible exact LeO.refl _)
      | (with_reducible exact LeO.none _)
      | (with_reducible refine LeO.ite ?_ ?_)
      | (with_reducible refine LeO.bind ?_ (fun _ => ?_))
      | exact ih0 _ _ _
      | exact ih1 _ _ _ _
      | exact ih2 _ _ _
      | exact ih3 _
      | exact ih4 _
      | exact ih5 _ _
      | exact ih6 _ _ _
      | exact ih7 _
      | exact ih8 _
      | exact ih9 _ _ _
      | exact LeO.none _
      | refine LeO.ite ?_ ?_
      | refine LeO.bind ?_ (fun _ => ?_)
    · intro y0
      unfold parlanceref03_field.l3
      repeat' first
      | (with_reducible exact ih0 _ _ _)
      | (with_reducible exact ih1 _ _ _ _)
      | (with_reducible exact ih2 _ _ _)
      | (with_reducible exact ih3 _)
      | (with_reducible exact ih4 _)
      | (with_reducible exact ih5 _ _)
      | (with_reducible exact ih6 _ _ _)
      | (with_reducible exact ih7 _)
      | (with_reducible exact ih8 _)
      | (with_reducible exact ih9 _ _ _)
      | (with_reducible exact LeO.refl _)
      | (with_reducible exact LeO.none _)
      | (with_reducible refine LeO.ite ?_ ?_)
      | (with_reducible refine LeO.bind ?_ (fun _ => ?_))
      | exact ih0 _ _ _
      | exact ih1 _ _ _ _
      | exact ih2 _ _ _
      | exact ih3 _
      | exact ih4 _
      | exact ih5 _ _
      | exact ih6 _ _ _
      | exact ih7 _
      | exact ih8 _
      | exact ih9 _ _ _
      | exact LeO.none _
      | refine LeO.ite ?_ ?_
      | refine LeO.bind ?_ (fun _ => ?_)
    · intro y0
      unfold parlanceref03_field.l2
      repeat' first
      | (with_reducible exact ih0 _ _ _)
      | (with_reducible exact ih1 _ _ _ _)
      | (with_reducible exact ih2 _ _ _)
      | (with_reducible exact ih3 _)
      | (with_reducible exact ih4 _)
      | (with_reducible exact ih5 _ _)
      | (with_reducible exact ih6 _ _ _)
      | (with_reducible exact ih7 _)
      | (with_reducible exact ih8 _)
      | (with_reducible exact ih9 _ _ _)
      | (with_reducible exact LeO.refl _)
      | (with_reducible exact LeO.none _)
      | (with_reducible refine LeO.ite ?_ ?_)
      | (with_reducible refine LeO.bind ?_ (fun _ => ?_))
      | exact ih0 _ _ _
      | exact ih1 _ _ _ _
      | exact ih2 _ _ _
      | exact ih3 _
      | exact ih4 _
      | exact ih5 _ _
      | exact ih6 _ _ _
      | exact ih7 _
      | exact ih8 _
      | exact ih9 _ _ _
      | exact LeO.none _
      | refine LeO.ite ?_ ?_
      | refine LeO.bind ?_ (fun _ => ?_)
    · intro y0 y1 y2
      unfold parlanceref03_field.l0
      repeat' first
      | (with_reducible exact ih0 _ _ _)
      | (with_reducible exact ih1 _ _ _ _)
      | (with_reducible exact ih2 _ _ _)
      | (with_reducible exact ih3 _)
      | (with_reducible exact ih4 _)
      | (with_reducible exact ih5 _ _)
      | (with_reducible exact ih6 _ _ _)
      | (with_reducible exact ih7 _)
      | (with_reducible exact ih8 _)
      | (with_reducible exact ih9 _ _ _)
      | (with_reducible exact LeO.refl _)
      | (with_reducible exact LeO.none _)
      | (with_reducible refine LeO.ite ?_ ?_)
      | (with_reducible refine LeO.bind ?_ (fun _ => ?_))
      | exact ih0 _ _ _
      | exact ih1 _ _ _ _
      | exact ih2 _ _ _
      | exact ih3 _
      | exact ih4 _
      | exact ih5 _ _
      | exact ih6 _ _ _
      | exact ih7 _
      | exact ih8 _
      | exact ih9 _ _ _
      | exact LeO.none _
      | refine LeO.ite ?_ ?_
      | refine LeO.bind ?_ (fun _ => ?_)
theorem parlanceref03_field.mono : ∀ a0 k, LeO (parlanceref03_field.f k a0) (parlanceref03_field.f (k + 1) a0) := by
  intro a0 k
  obtain ⟨ih0, ih1, ih2, ih3, ih4, ih5, ih6, ih7, ih8, ih9⟩ := parlanceref03_field.mono_l k
  unfold parlanceref03_field.f
  repeat' first
      | (with_reducible exact ih0 _ _ _)
      | (with_reducible exact ih1 _ _ _ _)
      | (with_reducible exact ih2 _ _ _)
      | (with_reducible exact ih3 _)
      | (with_reducible exact ih4 _)
      | (with_reducible exact ih5 _ _)
      | (with_reducible exact ih6 _ _ _)
      | (with_reducible exact ih7 _)
      | (with_reducible exact ih8 _)
      | (with_reducible exact ih9 _ _ _)
      | (with_reducible exact LeO.refl _)
      | (with_reducible exact LeO.none _)
      | (with_reducible refine LeO.ite ?_ ?_)
      | (with_reducible refine LeO.bind ?_ (fun _ => ?_))
      | exact ih0 _ _ _
      | exact ih1 _ _ _ _
      | exact ih2 _ _ _
      | exact ih3 _
      | exact ih4 _
      | exact ih5 _ _
      | exact ih6 _ _ _
      | exact ih7 _
      | exact ih8 _
      | exact ih9 _ _ _
      | exact LeO.none _
      | refine LeO.ite ?_ ?_
      | refine LeO.bind ?_ (fun _ => ?_)
set_option maxHeartbeats 8000000 in
set_option maxRecDepth 100000 in
theorem parlanceref03_field.calls (k : Nat) (P0_ : Nat → Prop) (A0 : Option Addr) (c0 : Nat) (l0 : List Int) (r : Int) (w : World) (hs0 : Kd.V (Kd.int .u8) 5 w w.heap.size (fun k_ => P0_ k_) (.slice A0 l0.length c0) l0) (h : parlanceref03_field.f k l0 = some r) :
    Calls Tryz.prog 25 #[.slice A0 l0.length c0] w fun e w' => e = .returned (.int .i64 r) ∧ Below w.heap.size w w' := by
  have HO0 := Aside0.mk (show Kd.V (Kd.int .u8) 5 w w.heap.size (fun k_ => (P0_ k_ ∨ w.heap.size ≤ k_)) (.slice A0 l0.length c0) l0 from Kd.V_mono hs0 (fun k_ hk => .inl hk))
  have HB := Aside0.mk (Below.refl w.heap.size w)
  have H : (parlanceref03_field.l0 k l0 0 (([] : List Int))) = some r := h
  clear h
  obtain ⟨y104, hy104⟩ : ∃ y_ : List Int, y_ = (([] : List Int)) := ⟨_, rfl⟩
  replace H : (parlanceref03_field.l0 k l0 0 y104) = some r := by first | (rw [hy104]; with_reducible exact H) | (have H2_ := (Option.bind_some _ _).symm.trans H; rw [hy104]; with_reducible exact H2_) | (have H2_ := (Option.bind_some _ _).symm.trans H; with_reducible exact H2_) | with_reducible exact H | (rw [hy104]; exact H) | exact H
  have Ny104 := Aside0.mk hy104
  clear hy104
  have HC2 := Aside0.mk H
  clear H
  go_enter Tryz.func25, Tryz.ntmps25
  go_upto_block 0 with (first | ((with_reducible refine gate_dst (N := 9) rfl ?_); (try (refine gate_guard (by rfl) ?_; dsimp only)); refine Kd.R_lit (Kd.int .u8) _ 5 ?hg (N := 9) ?hd (xs := ([] : List Int)) (inner := []) (ok := fun _ => True) (okp := fun _ => True) ?hr ?hp (fun _ hk => hk) trivial (Below.refl _ _) (Nat.le_refl _) (by simp) ?_; (case hd => rfl); (case hg => rfl); (case hr => first | (go_simp; done) | (go_simp; rfl)); (case hp => exact (Reps.none _ _)); intro v105 w3 ho4 hb hg_ hnew_; clear hg_ hnew_; (first | rw [← Ny104.out] at ho4 | (simp only [Int.reduceToNat] at ho4; rw [← Ny104.out] at ho4)); have n0_ := Aside0.mk (Kd.V_elder' (by (with_reducible repeat (first | apply Kd.V_alloc | apply Kd.V_drewN | apply Kd.V_drew)); exact HO0.out) (Kd.R_base ho4) hb); have n1_ := Aside0.mk (Kd.R_lower (Kd.R_newM (M := fun k_ => (w.heap.size ≤ k_)) ho4 (below_size (by repeat (first | (with_reducible first | exact HB.out | apply below_alloc | apply pw_below_drewN | apply below_drew1) | exact HB.out))) (fun k_ h_ => h_)) (below_size (by repeat (first | (with_reducible first | exact HB.out | apply below_alloc | apply pw_below_drewN | apply below_drew1) | exact HB.out)))); have n2_ := Aside0.mk (below_step (by repeat (first | (with_reducible first | exact HB.out | apply below_alloc | apply pw_below_drewN | apply below_drew1) | exact HB.out)) hb); clear HO0; clear HB; have HO0 := n0_; have HO106 := n1_; have HB := n2_; clear n0_ n1_ n2_; clear hb ho4))
  (try simp only [Act.put, List.setIfInBounds_toArray, List.set_cons_zero, List.set_cons_succ])
  go_cut [3, 4] (fun v3 v4 wc => ∃ (kq : Nat) (x3_1 : Int) (x4_1 : List Int), v3 = .int .i64 x3_1 ∧ Aside0 (parlanceref03_field.j1 kq l0 x3_1 x4_1 = some r) ∧ Aside0 (kq ≤ k) ∧ Aside0 (Kd.V (Kd.int .u8) 5 wc w.heap.size (fun k_ => (P0_ k_ ∨ w.heap.size ≤ k_) ∧ some k_ ≠ (v4 : Value).ownBlock) (.slice A0 l0.length c0) l0) ∧ Aside0 (Kd.R (Kd.int .u8) 5 wc w.heap.size (fun k_ => (w.heap.size ≤ k_)) v4 x4_1) ∧ Aside0 (Below w.heap.size w wc))
  case first =>
    have H := HC2.out
    clear HC2
    have H' := Aside0.mk H
    clear H
    go_wp2
    go_loopg [3, 4] k (fun kq v3 v4 w' => ∃ (x3_1 : Int) (x4_1 : List Int), v3 = .int .i64 x3_1 ∧ Aside0 (parlanceref03_field.l0 kq l0 x3_1 x4_1 = some r) ∧ Aside0 (kq ≤ k) ∧ Aside0 (Kd.V (Kd.int .u8) 5 w' w.heap.size (fun k_ => (P0_ k_ ∨ w.heap.size ≤ k_) ∧ some k_ ≠ (v4 : Value).ownBlock) (.slice A0 l0.length c0) l0) ∧ Aside0 (Kd.R (Kd.int .u8) 5 w' w.heap.size (fun k_ => (w.heap.size ≤ k_)) v4 x4_1) ∧ Aside0 (Below w.heap.size w w'))
    case atStart => exact ⟨(0), (y104), (by first | rfl | (simp; done) | (simp [*]; done)), H', ⟨Nat.le_refl _⟩, ⟨by (with_reducible repeat (first | apply Kd.V_alloc | apply Kd.V_drewN | apply Kd.V_drew)); exact HO0.out⟩, ⟨by (with_reducible repeat (first | apply Kd.R_alloc | apply Kd.R_drewN | apply Kd.R_drew)); exact Kd.R_mono HO106.out (fun _ hk => hk.1)⟩, ⟨by repeat (first | (with_reducible first | exact HB.out | apply below_alloc | apply pw_below_drewN | apply below_drew1) | exact HB.out)⟩⟩
    case round =>
      clear H'
      try clear c2
      try clear p2
      obtain ⟨x3_1, x4_1, rfl, HA, HK1, HO_0, HO_4, HB⟩ := hrel
      cases gk with
      | zero => exact absurd HA.out (by simp [parlanceref03_field.l0])
      | succ k1 =>
        have H := HA.out
        clear HA
        simp only [parlanceref03_field.l0] at H
        by_cases c5 : x3_1 < (l0.length : Int)
        · rw [if_pos c5] at H
          have c5b0 : decide (x3_1 < (l0.length : Int)) = true := decide_eq_true c5
          clear c5
          (first | rw [c5b0] | (simp only [i64_w, i32_w]; rw [c5b0]) | skip)
          by_cases c6 : 0 ≤ x3_1
          · rw [if_pos c6] at H
            have c6b0 : decide (0 ≤ x3_1) = true := decide_eq_true c6
            clear c6
            replace H := Option.bind_eq_some_iff.mp H
            obtain ⟨t108, A70, H⟩ := H
            replace H : (if t108 ≥ 97 then ((parlanceref03_folded.f (rd l0 x3_1)).bind fun t110 => (if t110 ≤ 122 then ((parlanceref03_folded.f (rd l0 x3_1)).bind fun t112 => (if x4_1.length < 140737488355328 then (parlanceref03_field.l0 k1 l0 (wrap64 (x3_1 + 1)) (x4_1 ++ [t112])) else (none))) else (if (rd l0 x3_1) = 45 then ((parlanceref03_folded.f (rd l0 x3_1)).bind fun t118 => (if x4_1.length < 140737488355328 then (parlanceref03_field.l0 k1 l0 (wrap64 (x3_1 + 1)) (x4_1 ++ [t118])) else (none))) else (parlanceref03_field.j1 k1 l0 x3_1 x4_1)))) else (if (rd l0 x3_1) = 45 then ((parlanceref03_folded.f (rd l0 x3_1)).bind fun t124 => (if x4_1.length < 140737488355328 then (parlanceref03_field.l0 k1 l0 (wrap64 (x3_1 + 1)) (x4_1 ++ [t124])) else (none))) else (parlanceref03_field.j1 k1 l0 x3_1 x4_1))) = some r := H
            have A7 := Aside0.mk A70
            clear A70
            by_cases c8 : t108 ≥ 97
            · rw [if_pos c8] at H
              have c8b0 : decide (97 ≤ t108) = true := decide_eq_true c8
              clear c8
              replace H := Option.bind_eq_some_iff.mp H
              obtain ⟨t110, A90, H⟩ := H
              have E_t110 : t110 = t108 := Option.some.inj (A90.symm.trans A7.out)
              have HE_t110 := Aside0.mk E_t110
              clear E_t110
              replace H : (if t110 ≤ 122 then ((parlanceref03_folded.f (rd l0 x3_1)).bind fun t112 => (if x4_1.length < 140737488355328 then (parlanceref03_field.l0 k1 l0 (wrap64 (x3_1 + 1)) (x4_1 ++ [t112])) else (none))) else (if (rd l0 x3_1) = 45 then ((parlanceref03_folded.f (rd l0 x3_1)).bind fun t118 => (if x4_1.length < 140737488355328 then (parlanceref03_field.l0 k1 l0 (wrap64 (x3_1 + 1)) (x4_1 ++ [t118])) else (none))) else (parlanceref03_field.j1 k1 l0 x3_1 x4_1))) = some r := H
              have A9 := Aside0.mk A90
              clear A90
              by_cases c10 : t110 ≤ 122
              · rw [if_pos c10] at H
                have c10b0 : decide (t110 ≤ 122) = true := decide_eq_true c10
                have c10b0x : decide (t108 ≤ 122) = true := by have q_ := c10b0; rw [HE_t110.out] at q_; exact q_
                clear c10
                replace H := Option.bind_eq_some_iff.mp H
                obtain ⟨t112, A110, H⟩ := H
                have E_t112 : t112 = t108 := Option.some.inj (A110.symm.trans A7.out)
                have HE_t112 := Aside0.mk E_t112
                clear E_t112
                replace H : (if x4_1.length < 140737488355328 then (parlanceref03_field.l0 k1 l0 (wrap64 (x3_1 + 1)) (x4_1 ++ [t112])) else (none)) = some r := H
                have A11 := Aside0.mk A110
                clear A110
                by_cases c12 : x4_1.length < 140737488355328
                · rw [if_pos c12] at H
                  have LMc12 := Aside0.mk c12
                  clear c12
                  obtain ⟨y113, hy113⟩ : ∃ y_ : List Int, y_ = (x4_1 ++ [t112]) := ⟨_, rfl⟩
                  replace H : (parlanceref03_field.l0 k1 l0 (wrap64 (x3_1 + 1)) y113) = some r := by first | (rw [hy113]; with_reducible exact H) | (have H2_ := (Option.bind_some _ _).symm.trans H; rw [hy113]; with_reducible exact H2_) | (have H2_ := (Option.bind_some _ _).symm.trans H; with_reducible exact H2_) | with_reducible exact H | (rw [hy113]; exact H) | exact H
                  have Ny113 := Aside0.mk hy113
                  clear hy113
                  have H' := Aside0.mk H
                  clear H
                  have p107 : 0 ≤ (x3_1 : Int) := of_decide_eq_true (by first | (with_reducible assumption) | assumption)
                  have q107 : x3_1 < (l0.length : Int) := of_decide_eq_true (by first | (with_reducible assumption) | assumption)
                  obtain ⟨ad107, e107, hx107_0⟩ := Kd.at_int (Kd.V_reads' HO_0.out).2.2 x3_1 p107 q107
                  cases e107
                  replace p107 := eq_true p107
                  replace q107 := eq_true q107
                  go_wp2_with (first | (go_at_call 33; (with_reducible refine (parlanceref03_folded.calls (rd l0 x3_1) t108 _ A7.out).mono ?_); rintro e w' ⟨rfl, ⟨nd, rfl⟩⟩; have p109 : 0 ≤ (x3_1 : Int) := of_decide_eq_true (by first | (with_reducible assumption) | assumption); have q109 : x3_1 < (l0.length : Int) := of_decide_eq_true (by first | (with_reducible assumption) | assumption); obtain ⟨ad109, e109, hx109_0⟩ := Kd.at_int (Kd.V_reads' HO_0.out).2.2 x3_1 p109 q109; obtain rfl : ad107 = ad109 := (by injection e109); replace p109 := eq_true p109; replace q109 := eq_true q109) | (go_at_call 33; (with_reducible refine (parlanceref03_folded.calls (rd l0 x3_1) t110 _ A9.out).mono ?_); rintro e w' ⟨rfl, ⟨nd, rfl⟩⟩; have p111 : 0 ≤ (x3_1 : Int) := of_decide_eq_true (by first | (with_reducible assumption) | assumption); have q111 : x3_1 < (l0.length : Int) := of_decide_eq_true (by first | (with_reducible assumption) | assumption); obtain ⟨ad111, e111, hx111_0⟩ := Kd.at_int (Kd.V_reads' HO_0.out).2.2 x3_1 p111 q111; obtain rfl : ad107 = ad111 := (by injection e111); replace p111 := eq_true p111; replace q111 := eq_true q111) | ((with_reducible refine gate_callee (f := 33) rfl ?_); refine goesL_ (some 42) rfl rfl Tryz.func33 (by kernel_rfl) rfl #[.int .u8 (rd l0 x3_1)] rfl (by (try simp only [List.map_toArray, List.map_cons, List.map_nil]); first | done | rfl | (simp only [List.length_drop, List.length_take]; rfl)) ?_; (with_reducible refine (parlanceref03_folded.calls (rd l0 x3_1) t112 _ A11.out).mono ?_); rintro e w' ⟨rfl, ⟨nd, rfl⟩⟩; refine ⟨_, rfl, ?_⟩) | ((with_reducible refine gate_builtin (b := .append) (xs := #[.tmp 37, .tmp 43]) rfl ?_); (try (refine gate_guard (by rfl) ?_; dsimp only)); at_builtin; refine Kd.R_append (Kd.int .u8) (w0 := w) w.heap.size rfl (.tmp 37) (.tmp 43) 27 5 (.int .u8 0) 1 rfl Tryz.underlying27 info5 rfl (by decide) (by omega) u4 x4_1 t112 [.int .u8 t112] (fun k_ => (w.heap.size ≤ k_)) (fun _ => False) rfl rfl ?aP (fun _ hk => hk.elim) ?aF ?aO ?aB ?aS ?aL ?_; (case aP => exact rfl); (case aB => exact (by repeat (first | (with_reducible first | exact HB.out | apply below_alloc | apply pw_below_drewN | apply below_drew1) | exact HB.out))); (case aF => exact (fun k_ hk => (Nat.le_trans (below_size (by repeat (first | (with_reducible first | exact HB.out | apply below_alloc | apply pw_below_drewN | apply below_drew1) | exact HB.out))) hk))); (case aO => exact (by (with_reducible repeat (first | apply Kd.R_alloc | apply Kd.R_drewN | apply Kd.R_drew)); exact HO_4.out)); (case aS => exact (below_size (by repeat (first | (with_reducible first | exact HB.out | apply below_alloc | apply pw_below_drewN | apply below_drew1) | exact HB.out)))); (case aL => have := LMc12.out; omega); intro v114 w13 ho hb hg hat; rw [← Ny113.out] at ho; have n0_ := Aside0.mk (Kd.V_afterv (ok := (fun k_ => (P0_ k_ ∨ w.heap.size ≤ k_))) (by (with_reducible repeat (first | apply Kd.V_alloc | apply Kd.V_drewN | apply Kd.V_drew)); exact HO_0.out) hg hat); have n1_ := Aside0.mk (hb); have n2_ := Aside0.mk (ho); clear HO_0; clear HB; clear HO_4; have HO_0 := n0_; have HB := n1_; have HO115 := n2_; clear n0_ n1_ n2_; clear ho hb hg hat))
                  go_roundg k1
                  case measure => have := HK1.out; omega
                  case rel => exact ⟨(wrap64 (x3_1 + 1)), (y113), (by first | rfl | (simp; done) | (simp [*]; done)), H', ⟨by have := HK1.out; omega⟩, ⟨by (with_reducible repeat (first | apply Kd.V_alloc | apply Kd.V_drewN | apply Kd.V_drew)); exact HO_0.out⟩, ⟨by (with_reducible repeat (first | apply Kd.R_alloc | apply Kd.R_drewN | apply Kd.R_drew)); exact HO115.out⟩, ⟨by repeat (first | (with_reducible first | exact HB.out | apply below_alloc | apply pw_below_drewN | apply below_drew1) | exact HB.out)⟩⟩
                · rw [if_neg c12] at H
                  exact absurd H (by simp)
              · rw [if_neg c10] at H
                have c10b0 : decide (t110 ≤ 122) = false := decide_eq_false c10
                have c10b0x : decide (t108 ≤ 122) = false := by have q_ := c10b0; rw [HE_t110.out] at q_; exact q_
                clear c10
                by_cases c14 : (rd l0 x3_1) = 45
                · rw [if_pos c14] at H
                  have c14b0 : ((rd l0 x3_1) == 45) = true := beq_iff_eq.mpr c14
                  have c14b1 : ((rd l0 x3_1) != 45) = false := bne_eq_false_iff_eq.mpr c14
                  clear c14
                  replace H := Option.bind_eq_some_iff.mp H
                  obtain ⟨t118, A150, H⟩ := H
                  have E_t118 : t118 = t108 := Option.some.inj (A150.symm.trans A7.out)
                  have HE_t118 := Aside0.mk E_t118
                  clear E_t118
                  replace H : (if x4_1.length < 140737488355328 then (parlanceref03_field.l0 k1 l0 (wrap64 (x3_1 + 1)) (x4_1 ++ [t118])) else (none)) = some r := H
                  have A15 := Aside0.mk A150
                  clear A150
                  by_cases c16 : x4_1.length < 140737488355328
                  · rw [if_pos c16] at H
                    have LMc16 := Aside0.mk c16
                    clear c16
                    obtain ⟨y119, hy119⟩ : ∃ y_ : List Int, y_ = (x4_1 ++ [t118]) := ⟨_, rfl⟩
                    replace H : (parlanceref03_field.l0 k1 l0 (wrap64 (x3_1 + 1)) y119) = some r := by first | (rw [hy119]; with_reducible exact H) | (have H2_ := (Option.bind_some _ _).symm.trans H; rw [hy119]; with_reducible exact H2_) | (have H2_ := (Option.bind_some _ _).symm.trans H; with_reducible exact H2_) | with_reducible exact H | (rw [hy119]; exact H) | exact H
                    have Ny119 := Aside0.mk hy119
                    clear hy119
                    have H' := Aside0.mk H
                    clear H
                    have p107 : 0 ≤ (x3_1 : Int) := of_decide_eq_true (by first | (with_reducible assumption) | assumption)
                    have q107 : x3_1 < (l0.length : Int) := of_decide_eq_true (by first | (with_reducible assumption) | assumption)
                    obtain ⟨ad107, e107, hx107_0⟩ := Kd.at_int (Kd.V_reads' HO_0.out).2.2 x3_1 p107 q107
                    cases e107
                    replace p107 := eq_true p107
                    replace q107 := eq_true q107
                    go_wp2_with (first | (go_at_call 33; (with_reducible refine (parlanceref03_folded.calls (rd l0 x3_1) t108 _ A7.out).mono ?_); rintro e w' ⟨rfl, ⟨nd, rfl⟩⟩; have p109 : 0 ≤ (x3_1 : Int) := of_decide_eq_true (by first | (with_reducible assumption) | assumption); have q109 : x3_1 < (l0.length : Int) := of_decide_eq_true (by first | (with_reducible assumption) | assumption); obtain ⟨ad109, e109, hx109_0⟩ := Kd.at_int (Kd.V_reads' HO_0.out).2.2 x3_1 p109 q109; obtain rfl : ad107 = ad109 := (by injection e109); replace p109 := eq_true p109; replace q109 := eq_true q109) | (go_at_call 33; (with_reducible refine (parlanceref03_folded.calls (rd l0 x3_1) t110 _ A9.out).mono ?_); rintro e w' ⟨rfl, ⟨nd, rfl⟩⟩; have p116 : 0 ≤ (x3_1 : Int) := of_decide_eq_true (by first | (with_reducible assumption) | assumption); have q116 : x3_1 < (l0.length : Int) := of_decide_eq_true (by first | (with_reducible assumption) | assumption); obtain ⟨ad116, e116, hx116_0⟩ := Kd.at_int (Kd.V_reads' HO_0.out).2.2 x3_1 p116 q116; obtain rfl : ad107 = ad116 := (by injection e116); replace p116 := eq_true p116; replace q116 := eq_true q116; have p117 : 0 ≤ (x3_1 : Int) := of_decide_eq_true (by first | (with_reducible assumption) | assumption); have q117 : x3_1 < (l0.length : Int) := of_decide_eq_true (by first | (with_reducible assumption) | assumption); obtain ⟨ad117, e117, hx117_0⟩ := Kd.at_int (Kd.V_reads' HO_0.out).2.2 x3_1 p117 q117; obtain rfl : ad107 = ad117 := (by injection e117); replace p117 := eq_true p117; replace q117 := eq_true q117) | ((with_reducible refine gate_callee (f := 33) rfl ?_); refine goesL_ (some 42) rfl rfl Tryz.func33 (by kernel_rfl) rfl #[.int .u8 (rd l0 x3_1)] rfl (by (try simp only [List.map_toArray, List.map_cons, List.map_nil]); first | done | rfl | (simp only [List.length_drop, List.length_take]; rfl)) ?_; (with_reducible refine (parlanceref03_folded.calls (rd l0 x3_1) t118 _ A15.out).mono ?_); rintro e w' ⟨rfl, ⟨nd, rfl⟩⟩; refine ⟨_, rfl, ?_⟩) | ((with_reducible refine gate_builtin (b := .append) (xs := #[.tmp 37, .tmp 43]) rfl ?_); (try (refine gate_guard (by rfl) ?_; dsimp only)); at_builtin; refine Kd.R_append (Kd.int .u8) (w0 := w) w.heap.size rfl (.tmp 37) (.tmp 43) 27 5 (.int .u8 0) 1 rfl Tryz.underlying27 info5 rfl (by decide) (by omega) u4 x4_1 t118 [.int .u8 t118] (fun k_ => (w.heap.size ≤ k_)) (fun _ => False) rfl rfl ?aP (fun _ hk => hk.elim) ?aF ?aO ?aB ?aS ?aL ?_; (case aP => exact rfl); (case aB => exact (by repeat (first | (with_reducible first | exact HB.out | apply below_alloc | apply pw_below_drewN | apply below_drew1) | exact HB.out))); (case aF => exact (fun k_ hk => (Nat.le_trans (below_size (by repeat (first | (with_reducible first | exact HB.out | apply below_alloc | apply pw_below_drewN | apply below_drew1) | exact HB.out))) hk))); (case aO => exact (by (with_reducible repeat (first | apply Kd.R_alloc | apply Kd.R_drewN | apply Kd.R_drew)); exact HO_4.out)); (case aS => exact (below_size (by repeat (first | (with_reducible first | exact HB.out | apply below_alloc | apply pw_below_drewN | apply below_drew1) | exact HB.out)))); (case aL => have := LMc16.out; omega); intro v120 w17 ho hb hg hat; rw [← Ny119.out] at ho; have n0_ := Aside0.mk (Kd.V_afterv (ok := (fun k_ => (P0_ k_ ∨ w.heap.size ≤ k_))) (by (with_reducible repeat (first | apply Kd.V_alloc | apply Kd.V_drewN | apply Kd.V_drew)); exact HO_0.out) hg hat); have n1_ := Aside0.mk (hb); have n2_ := Aside0.mk (ho); clear HO_0; clear HB; clear HO_4; have HO_0 := n0_; have HB := n1_; have HO121 := n2_; clear n0_ n1_ n2_; clear ho hb hg hat))
                    go_roundg k1
                    case measure => have := HK1.out; omega
                    case rel => exact ⟨(wrap64 (x3_1 + 1)), (y119), (by first | rfl | (simp; done) | (simp [*]; done)), H', ⟨by have := HK1.out; omega⟩, ⟨by (with_reducible repeat (first | apply Kd.V_alloc | apply Kd.V_drewN | apply Kd.V_drew)); exact HO_0.out⟩, ⟨by (with_reducible repeat (first | apply Kd.R_alloc | apply Kd.R_drewN | apply Kd.R_drew)); exact HO121.out⟩, ⟨by repeat (first | (with_reducible first | exact HB.out | apply below_alloc | apply pw_below_drewN | apply below_drew1) | exact HB.out)⟩⟩
                  · rw [if_neg c16] at H
                    exact absurd H (by simp)
                · rw [if_neg c14] at H
                  have c14b0 : ((rd l0 x3_1) == 45) = false := beq_eq_false_iff_ne.mpr c14
                  have c14b1 : ((rd l0 x3_1) != 45) = true := bne_iff_ne.mpr c14
                  have H' := Aside0.mk H
                  clear H
                  have p107 : 0 ≤ (x3_1 : Int) := of_decide_eq_true (by first | (with_reducible assumption) | assumption)
                  have q107 : x3_1 < (l0.length : Int) := of_decide_eq_true (by first | (with_reducible assumption) | assumption)
                  obtain ⟨ad107, e107, hx107_0⟩ := Kd.at_int (Kd.V_reads' HO_0.out).2.2 x3_1 p107 q107
                  cases e107
                  replace p107 := eq_true p107
                  replace q107 := eq_true q107
                  go_wp2_with (first | (go_at_call 33; (with_reducible refine (parlanceref03_folded.calls (rd l0 x3_1) t108 _ A7.out).mono ?_); rintro e w' ⟨rfl, ⟨nd, rfl⟩⟩; have p109 : 0 ≤ (x3_1 : Int) := of_decide_eq_true (by first | (with_reducible assumption) | assumption); have q109 : x3_1 < (l0.length : Int) := of_decide_eq_true (by first | (with_reducible assumption) | assumption); obtain ⟨ad109, e109, hx109_0⟩ := Kd.at_int (Kd.V_reads' HO_0.out).2.2 x3_1 p109 q109; obtain rfl : ad107 = ad109 := (by injection e109); replace p109 := eq_true p109; replace q109 := eq_true q109) | (go_at_call 33; (with_reducible refine (parlanceref03_folded.calls (rd l0 x3_1) t110 _ A9.out).mono ?_); rintro e w' ⟨rfl, ⟨nd, rfl⟩⟩; have p116 : 0 ≤ (x3_1 : Int) := of_decide_eq_true (by first | (with_reducible assumption) | assumption); have q116 : x3_1 < (l0.length : Int) := of_decide_eq_true (by first | (with_reducible assumption) | assumption); obtain ⟨ad116, e116, hx116_0⟩ := Kd.at_int (Kd.V_reads' HO_0.out).2.2 x3_1 p116 q116; obtain rfl : ad107 = ad116 := (by injection e116); replace p116 := eq_true p116; replace q116 := eq_true q116))
                  go_meet
                  case rel => exact ⟨_, (x3_1), (x4_1), (by first | rfl | (simp; done) | (simp [*]; done)), H', ⟨by have := HK1.out; first | omega | exact Nat.le_refl _⟩, ⟨by (with_reducible repeat (first | apply Kd.V_alloc | apply Kd.V_drewN | apply Kd.V_drew)); exact HO_0.out⟩, ⟨by (with_reducible repeat (first | apply Kd.R_alloc | apply Kd.R_drewN | apply Kd.R_drew)); exact HO_4.out⟩, ⟨by repeat (first | (with_reducible first | exact HB.out | apply below_alloc | apply pw_below_drewN | apply below_drew1) | exact HB.out)⟩⟩
            · rw [if_neg c8] at H
              have c8b0 : decide (97 ≤ t108) = false := decide_eq_false c8
              clear c8
              by_cases c18 : (rd l0 x3_1) = 45
              · rw [if_pos c18] at H
                have c18b0 : ((rd l0 x3_1) == 45) = true := beq_iff_eq.mpr c18
                have c18b1 : ((rd l0 x3_1) != 45) = false := bne_eq_false_iff_eq.mpr c18
                clear c18
                replace H := Option.bind_eq_some_iff.mp H
                obtain ⟨t124, A190, H⟩ := H
                have E_t124 : t124 = t108 := Option.some.inj (A190.symm.trans A7.out)
                have HE_t124 := Aside0.mk E_t124
                clear E_t124
                replace H : (if x4_1.length < 140737488355328 then (parlanceref03_field.l0 k1 l0 (wrap64 (x3_1 + 1)) (x4_1 ++ [t124])) else (none)) = some r := H
                have A19 := Aside0.mk A190
                clear A190
                by_cases c20 : x4_1.length < 140737488355328
                · rw [if_pos c20] at H
                  have LMc20 := Aside0.mk c20
                  clear c20
                  obtain ⟨y125, hy125⟩ : ∃ y_ : List Int, y_ = (x4_1 ++ [t124]) := ⟨_, rfl⟩
                  replace H : (parlanceref03_field.l0 k1 l0 (wrap64 (x3_1 + 1)) y125) = some r := by first | (rw [hy125]; with_reducible exact H) | (have H2_ := (Option.bind_some _ _).symm.trans H; rw [hy125]; with_reducible exact H2_) | (have H2_ := (Option.bind_some _ _).symm.trans H; with_reducible exact H2_) | with_reducible exact H | (rw [hy125]; exact H) | exact H
                  have Ny125 := Aside0.mk hy125
                  clear hy125
                  have H' := Aside0.mk H
                  clear H
                  have p107 : 0 ≤ (x3_1 : Int) := of_decide_eq_true (by first | (with_reducible assumption) | assumption)
                  have q107 : x3_1 < (l0.length : Int) := of_decide_eq_true (by first | (with_reducible assumption) | assumption)
                  obtain ⟨ad107, e107, hx107_0⟩ := Kd.at_int (Kd.V_reads' HO_0.out).2.2 x3_1 p107 q107
                  cases e107
                  replace p107 := eq_true p107
                  replace q107 := eq_true q107
                  go_wp2_with (first | (go_at_call 33; (with_reducible refine (parlanceref03_folded.calls (rd l0 x3_1) t108 _ A7.out).mono ?_); rintro e w' ⟨rfl, ⟨nd, rfl⟩⟩; have p122 : 0 ≤ (x3_1 : Int) := of_decide_eq_true (by first | (with_reducible assumption) | assumption); have q122 : x3_1 < (l0.length : Int) := of_decide_eq_true (by first | (with_reducible assumption) | assumption); obtain ⟨ad122, e122, hx122_0⟩ := Kd.at_int (Kd.V_reads' HO_0.out).2.2 x3_1 p122 q122; obtain rfl : ad107 = ad122 := (by injection e122); replace p122 := eq_true p122; replace q122 := eq_true q122; have p123 : 0 ≤ (x3_1 : Int) := of_decide_eq_true (by first | (with_reducible assumption) | assumption); have q123 : x3_1 < (l0.length : Int) := of_decide_eq_true (by first | (with_reducible assumption) | assumption); obtain ⟨ad123, e123, hx123_0⟩ := Kd.at_int (Kd.V_reads' HO_0.out).2.2 x3_1 p123 q123; obtain rfl : ad107 = ad123 := (by injection e123); replace p123 := eq_true p123; replace q123 := eq_true q123) | ((with_reducible refine gate_callee (f := 33) rfl ?_); refine goesL_ (some 42) rfl rfl Tryz.func33 (by kernel_rfl) rfl #[.int .u8 (rd l0 x3_1)] rfl (by (try simp only [List.map_toArray, List.map_cons, List.map_nil]); first | done | rfl | (simp only [List.length_drop, List.length_take]; rfl)) ?_; (with_reducible refine (parlanceref03_folded.calls (rd l0 x3_1) t124 _ A19.out).mono ?_); rintro e w' ⟨rfl, ⟨nd, rfl⟩⟩; refine ⟨_, rfl, ?_⟩) | ((with_reducible refine gate_builtin (b := .append) (xs := #[.tmp 37, .tmp 43]) rfl ?_); (try (refine gate_guard (by rfl) ?_; dsimp only)); at_builtin; refine Kd.R_append (Kd.int .u8) (w0 := w) w.heap.size rfl (.tmp 37) (.tmp 43) 27 5 (.int .u8 0) 1 rfl Tryz.underlying27 info5 rfl (by decide) (by omega) u4 x4_1 t124 [.int .u8 t124] (fun k_ => (w.heap.size ≤ k_)) (fun _ => False) rfl rfl ?aP (fun _ hk => hk.elim) ?aF ?aO ?aB ?aS ?aL ?_; (case aP => exact rfl); (case aB => exact (by repeat (first | (with_reducible first | exact HB.out | apply below_alloc | apply pw_below_drewN | apply below_drew1) | exact HB.out))); (case aF => exact (fun k_ hk => (Nat.le_trans (below_size (by repeat (first | (with_reducible first | exact HB.out | apply below_alloc | apply pw_below_drewN | apply below_drew1) | exact HB.out))) hk))); (case aO => exact (by (with_reducible repeat (first | apply Kd.R_alloc | apply Kd.R_drewN | apply Kd.R_drew)); exact HO_4.out)); (case aS => exact (below_size (by repeat (first | (with_reducible first | exact HB.out | apply below_alloc | apply pw_below_drewN | apply below_drew1) | exact HB.out)))); (case aL => have := LMc20.out; omega); intro v126 w21 ho hb hg hat; rw [← Ny125.out] at ho; have n0_ := Aside0.mk (Kd.V_afterv (ok := (fun k_ => (P0_ k_ ∨ w.heap.size ≤ k_))) (by (with_reducible repeat (first | apply Kd.V_alloc | apply Kd.V_drewN | apply Kd.V_drew)); exact HO_0.out) hg hat); have n1_ := Aside0.mk (hb); have n2_ := Aside0.mk (ho); clear HO_0; clear HB; clear HO_4; have HO_0 := n0_; have HB := n1_; have HO127 := n2_; clear n0_ n1_ n2_; clear ho hb hg hat))
                  go_roundg k1
                  case measure => have := HK1.out; omega
                  case rel => exact ⟨(wrap64 (x3_1 + 1)), (y125), (by first | rfl | (simp; done) | (simp [*]; done)), H', ⟨by have := HK1.out; omega⟩, ⟨by (with_reducible repeat (first | apply Kd.V_alloc | apply Kd.V_drewN | apply Kd.V_drew)); exact HO_0.out⟩, ⟨by (with_reducible repeat (first | apply Kd.R_alloc | apply Kd.R_drewN | apply Kd.R_drew)); exact HO127.out⟩, ⟨by repeat (first | (with_reducible first | exact HB.out | apply below_alloc | apply pw_below_drewN | apply below_drew1) | exact HB.out)⟩⟩
                · rw [if_neg c20] at H
                  exact absurd H (by simp)
              · rw [if_neg c18] at H
                have c18b0 : ((rd l0 x3_1) == 45) = false := beq_eq_false_iff_ne.mpr c18
                have c18b1 : ((rd l0 x3_1) != 45) = true := bne_iff_ne.mpr c18
                have H' := Aside0.mk H
                clear H
                have p107 : 0 ≤ (x3_1 : Int) := of_decide_eq_true (by first | (with_reducible assumption) | assumption)
                have q107 : x3_1 < (l0.length : Int) := of_decide_eq_true (by first | (with_reducible assumption) | assumption)
                obtain ⟨ad107, e107, hx107_0⟩ := Kd.at_int (Kd.V_reads' HO_0.out).2.2 x3_1 p107 q107
                cases e107
                replace p107 := eq_true p107
                replace q107 := eq_true q107
                go_wp2_with (first | (go_at_call 33; (with_reducible refine (parlanceref03_folded.calls (rd l0 x3_1) t108 _ A7.out).mono ?_); rintro e w' ⟨rfl, ⟨nd, rfl⟩⟩; have p122 : 0 ≤ (x3_1 : Int) := of_decide_eq_true (by first | (with_reducible assumption) | assumption); have q122 : x3_1 < (l0.length : Int) := of_decide_eq_true (by first | (with_reducible assumption) | assumption); obtain ⟨ad122, e122, hx122_0⟩ := Kd.at_int (Kd.V_reads' HO_0.out).2.2 x3_1 p122 q122; obtain rfl : ad107 = ad122 := (by injection e122); replace p122 := eq_true p122; replace q122 := eq_true q122))
                go_meet
                case rel => exact ⟨_, (x3_1), (x4_1), (by first | rfl | (simp; done) | (simp [*]; done)), H', ⟨by have := HK1.out; first | omega | exact Nat.le_refl _⟩, ⟨by (with_reducible repeat (first | apply Kd.V_alloc | apply Kd.V_drewN | apply Kd.V_drew)); exact HO_0.out⟩, ⟨by (with_reducible repeat (first | apply Kd.R_alloc | apply Kd.R_drewN | apply Kd.R_drew)); exact HO_4.out⟩, ⟨by repeat (first | (with_reducible first | exact HB.out | apply below_alloc | apply pw_below_drewN | apply below_drew1) | exact HB.out)⟩⟩
          · rw [if_neg c6] at H
            exact absurd H (by simp)
        · rw [if_neg c5] at H
          have c5b0 : decide (x3_1 < (l0.length : Int)) = false := decide_eq_false c5
          clear c5
          (first | rw [c5b0] | (simp only [i64_w, i32_w]; rw [c5b0]) | skip)
          have H' := Aside0.mk H
          clear H
          go_wp2
          go_meet
          case rel => exact ⟨_, (x3_1), (x4_1), (by first | rfl | (simp; done) | (simp [*]; done)), H', ⟨by have := HK1.out; first | omega | exact Nat.le_refl _⟩, ⟨by (with_reducible repeat (first | apply Kd.V_alloc | apply Kd.V_drewN | apply Kd.V_drew)); exact HO_0.out⟩, ⟨by (with_reducible repeat (first | apply Kd.R_alloc | apply Kd.R_drewN | apply Kd.R_drew)); exact HO_4.out⟩, ⟨by repeat (first | (with_reducible first | exact HB.out | apply below_alloc | apply pw_below_drewN | apply below_drew1) | exact HB.out)⟩⟩
  case rest =>
    clear HC2
    try clear c1
    try clear p1
    try clear q1
    try clear hx1
    try clear c2
    try clear p2
    try clear c3
    try clear c5
    try clear c5b0
    try clear c6
    try clear c6b0
    try clear p6
    try clear c8
    try clear c8b0
    try clear c10
    try clear c10b0
    try clear p10
    try clear q10
    try clear hx10
    try clear p11
    try clear q11
    try clear hx11
    try clear c12
    try clear p12
    try clear q12
    try clear hx12
    try clear c14
    try clear c14b0
    try clear c14b1
    try clear c16
    try clear c18
    try clear c18b0
    try clear c18b1
    try clear c20
    try clear hx107_0
    try clear hx109_0
    try clear hx111_0
    try clear hx116_0
    try clear hx117_0
    try clear hx122_0
    try clear hx123_0
    try clear p107
    try clear p109
    try clear p111
    try clear p116
    try clear p117
    try clear p122
    try clear p123
    try clear p2
    try clear q107
    try clear q109
    try clear q111
    try clear q116
    try clear q117
    try clear q122
    try clear q123
    obtain ⟨kq, x3_1, x4_1, rfl, HA, HJ1, HO_0, HO_4, HB⟩ := hcut
    cases kq with
    | zero => exact absurd HA.out (by simp [parlanceref03_field.j1])
    | succ kj1 =>
      have H := HA.out
      clear HA
      simp only [parlanceref03_field.j1] at H
      have HC22 := Aside0.mk H
      clear H
      go_upto_region 6 with (fail)
      go_cut [61] (fun v61 wc => ∃ (kq : Nat) (x61_21 : Bool), v61 = .bool x61_21 ∧ Aside0 (parlanceref03_field.j2 kq l0 x3_1 x4_1 x61_21 = some r) ∧ Aside0 (kq ≤ kj1) ∧ Aside0 (Kd.V (Kd.int .u8) 5 wc w.heap.size (fun k_ => (P0_ k_ ∨ w.heap.size ≤ k_) ∧ some k_ ≠ (u4 : Value).ownBlock) (.slice A0 l0.length c0) l0) ∧ Aside0 (Kd.R (Kd.int .u8) 5 wc w.heap.size (fun k_ => (w.heap.size ≤ k_)) u4 x4_1) ∧ Aside0 (Below w.heap.size w wc))
      case first =>
        have H := HC22.out
        clear HC22
        by_cases c23 : x3_1 = 0
        · rw [if_pos c23] at H
          have c23b0 : (x3_1 == 0) = true := beq_iff_eq.mpr c23
          have c23b1 : (x3_1 != 0) = false := bne_eq_false_iff_eq.mpr c23
          clear c23
          (first | rw [c23b0] | (simp only [i64_w, i32_w]; rw [c23b0]) | skip)
          have H' := Aside0.mk H
          clear H
          go_wp2
          go_meet
          case rel => exact ⟨_, (true), (by first | rfl | (simp; done) | (simp [*]; done)), H', ⟨by have := HJ1.out; first | omega | exact Nat.le_refl _⟩, ⟨by (with_reducible repeat (first | apply Kd.V_alloc | apply Kd.V_drewN | apply Kd.V_drew)); exact HO_0.out⟩, ⟨by (with_reducible repeat (first | apply Kd.R_alloc | apply Kd.R_drewN | apply Kd.R_drew)); exact HO_4.out⟩, ⟨by repeat (first | (with_reducible first | exact HB.out | apply below_alloc | apply pw_below_drewN | apply below_drew1) | exact HB.out)⟩⟩
        · rw [if_neg c23] at H
          have c23b0 : (x3_1 == 0) = false := beq_eq_false_iff_ne.mpr c23
          have c23b1 : (x3_1 != 0) = true := bne_iff_ne.mpr c23
          (first | rw [c23b0] | (simp only [i64_w, i32_w]; rw [c23b0]) | skip)
          by_cases c24 : x3_1 = (l0.length : Int)
          · rw [if_pos c24] at H
            have c24b0 : (x3_1 == (l0.length : Int)) = true := beq_iff_eq.mpr c24
            have c24b1 : (x3_1 != (l0.length : Int)) = false := bne_eq_false_iff_eq.mpr c24
            clear c24
            have H' := Aside0.mk H
            clear H
            go_wp2
            go_meet
            case rel => exact ⟨_, (true), (by first | rfl | (simp; done) | (simp [*]; done)), H', ⟨by have := HJ1.out; first | omega | exact Nat.le_refl _⟩, ⟨by (with_reducible repeat (first | apply Kd.V_alloc | apply Kd.V_drewN | apply Kd.V_drew)); exact HO_0.out⟩, ⟨by (with_reducible repeat (first | apply Kd.R_alloc | apply Kd.R_drewN | apply Kd.R_drew)); exact HO_4.out⟩, ⟨by repeat (first | (with_reducible first | exact HB.out | apply below_alloc | apply pw_below_drewN | apply below_drew1) | exact HB.out)⟩⟩
          · rw [if_neg c24] at H
            have c24b0 : (x3_1 == (l0.length : Int)) = false := beq_eq_false_iff_ne.mpr c24
            have c24b1 : (x3_1 != (l0.length : Int)) = true := bne_iff_ne.mpr c24
            by_cases c25 : 0 ≤ x3_1
            · rw [if_pos c25] at H
              have c25b0 : decide (0 ≤ x3_1) = true := decide_eq_true c25
              clear c25
              by_cases c26 : x3_1 < (l0.length : Int)
              · rw [if_pos c26] at H
                have c26b0 : decide (x3_1 < (l0.length : Int)) = true := decide_eq_true c26
                clear c26
                have H' := Aside0.mk H
                clear H
                have p128 : 0 ≤ (x3_1 : Int) := of_decide_eq_true (by first | (with_reducible assumption) | assumption)
                have q128 : x3_1 < (l0.length : Int) := of_decide_eq_true (by first | (with_reducible assumption) | assumption)
                obtain ⟨ad128, e128, hx128_0⟩ := Kd.at_int (Kd.V_reads' HO_0.out).2.2 x3_1 p128 q128
                cases e128
                replace p128 := eq_true p128
                replace q128 := eq_true q128
                go_wp2
                go_meet
                case rel => exact ⟨_, (((rd l0 x3_1) != 58)), (by first | rfl | (simp; done) | (simp [*]; done)), H', ⟨by have := HJ1.out; first | omega | exact Nat.le_refl _⟩, ⟨by (with_reducible repeat (first | apply Kd.V_alloc | apply Kd.V_drewN | apply Kd.V_drew)); exact HO_0.out⟩, ⟨by (with_reducible repeat (first | apply Kd.R_alloc | apply Kd.R_drewN | apply Kd.R_drew)); exact HO_4.out⟩, ⟨by repeat (first | (with_reducible first | exact HB.out | apply below_alloc | apply pw_below_drewN | apply below_drew1) | exact HB.out)⟩⟩
              · rw [if_neg c26] at H
                exact absurd H (by simp)
            · rw [if_neg c25] at H
              exact absurd H (by simp)
      case rest =>
        clear HC22
        try clear c1
        try clear p1
        try clear q1
        try clear hx1
        try clear c2
        try clear p2
        try clear c3
        try clear c5
        try clear c5b0
        try clear c6
        try clear c6b0
        try clear p6
        try clear c8
        try clear c8b0
        try clear c10
        try clear c10b0
        try clear p10
        try clear q10
        try clear hx10
        try clear p11
        try clear q11
        try clear hx11
        try clear c12
        try clear p12
        try clear q12
        try clear hx12
        try clear c14
        try clear c14b0
        try clear c14b1
        try clear c16
        try clear c18
        try clear c18b0
        try clear c18b1
        try clear c20
        try clear c23
        try clear c23b0
        try clear c23b1
        try clear c24
        try clear c24b0
        try clear c24b1
        try clear c25
        try clear c25b0
        try clear c26
        try clear c26b0
        try clear hx107_0
        try clear hx109_0
        try clear hx111_0
        try clear hx116_0
        try clear hx117_0
        try clear hx122_0
        try clear hx123_0
        try clear hx128_0
        try clear p1
        try clear p10
        try clear p107
        try clear p109
        try clear p11
        try clear p111
        try clear p116
        try clear p117
        try clear p12
        try clear p122
        try clear p123
        try clear p128
        try clear p2
        try clear p6
        try clear q1
        try clear q10
        try clear q107
        try clear q109
        try clear q11
        try clear q111
        try clear q116
        try clear q117
        try clear q12
        try clear q122
        try clear q123
        try clear q128
        obtain ⟨kq, x61_21, rfl, HA, HJ21, HO_0, HO_4, HB⟩ := hcut
        cases kq with
        | zero => exact absurd HA.out (by simp [parlanceref03_field.j2])
        | succ kj21 =>
          have H := HA.out
          clear HA
          simp only [parlanceref03_field.j2] at H
          by_cases c27 : x61_21 = true
          · subst c27
            have H1 : (some (-2)) = some r := by rw [if_pos rfl] at H; exact H
            clear H
            have H := H1
            clear H1
            obtain rfl := Option.some.inj H
            go_wp2
            go_ret
            exact ⟨by first | rfl | (simp [errW_none, errW_some] <;> rfl) | (simp [*, errW_none, errW_some] <;> rfl), by repeat (first | (with_reducible first | exact HB.out | apply below_alloc | apply pw_below_drewN | apply below_drew1) | exact HB.out)⟩
          · replace c27 := Bool.eq_false_iff.mpr c27
            subst c27
            have H1 : (if 0 ≤ (wrap64 (x3_1 + 1)) then (if (wrap64 (x3_1 + 1)) ≤ (l0.length : Int) then (parlanceref03_field.l1 kj21 x4_1 (l0.drop ((wrap64 (x3_1 + 1)) : Int).toNat) 0) else (none)) else (none)) = some r := by rw [if_neg (show ¬ (false = true) by decide)] at H; exact H
            clear H
            have H := H1
            clear H1
            obtain ⟨ji28, hji28⟩ : ∃ j_ : Int, (wrap64 (x3_1 + 1)) = j_ := ⟨_, rfl⟩
            replace H : (if 0 ≤ (ji28) then (if (ji28) ≤ (l0.length : Int) then (parlanceref03_field.l1 kj21 x4_1 (l0.drop ((ji28) : Int).toNat) 0) else (none)) else (none)) = some r := by first | (rw [hji28] at H; exact H) | (simp only [hji28] at H ⊢; exact H)
            have hji28w : (IntKind.i64.wrap (x3_1 + 1)) = ji28 := (i64_w _).trans hji28
            by_cases c29 : 0 ≤ (ji28)
            · rw [if_pos c29] at H
              have c29b0 := eq_true c29
              have c29b1 : decide (0 ≤ (ji28)) = true := decide_eq_true c29
              clear c29
              by_cases c30 : (ji28) ≤ (l0.length : Int)
              · rw [if_pos c30] at H
                have c30b0 := eq_true c30
                have c30b1 : decide ((ji28) ≤ (l0.length : Int)) = true := decide_eq_true c30
                clear c30
                obtain ⟨y129, hy129⟩ : ∃ y_ : List Int, y_ = (l0.drop ((ji28) : Int).toNat) := ⟨_, rfl⟩
                replace H : (parlanceref03_field.l1 kj21 x4_1 y129 0) = some r := by first | (rw [hy129]; with_reducible exact H) | (have H2_ := (Option.bind_some _ _).symm.trans H; rw [hy129]; with_reducible exact H2_) | (have H2_ := (Option.bind_some _ _).symm.trans H; with_reducible exact H2_) | with_reducible exact H | (rw [hy129]; exact H) | exact H
                have Ny129 := Aside0.mk hy129
                clear hy129
                have H' := Aside0.mk H
                clear H
                have q31 : ((ji28) : Int) ≤ ((l0.length : Int) : Int) := of_decide_eq_true (by first | (with_reducible assumption) | assumption)
                obtain ⟨i031, hi031, _, hsz31, _⟩ := info_parts info5
                have hroom31 : l0.length ≤ c0 := (Kd.V_reads' HO_0.out).2.1
                have hC31 : Kd.F (Kd.int .u8) _ _ A0 l0.length l0 := (Kd.V_at (base := w.heap.size) HO_0.out).2.2
                have q031 : (0 : Int) ≤ ((ji28) : Int) := of_decide_eq_true (by first | (with_reducible assumption) | assumption)
                have hcut31 := cut_from (P := Tryz.prog) 27 5 .i64 Tryz.underlying27 hi031 1 hsz31 A0 l0.length c0 (ji28) q031 q31
                have hr31 := Kd.F_cut (m := ((ji28) : Int).toNat) (c := c0) hC31 (by omega) hroom31
                obtain ⟨A31, hA31⟩ : ∃ Aq_, Aq_ = (if c0 = ((ji28) : Int).toNat then A0 else (A0 : Option Addr).map (·.add (((ji28) : Int).toNat * 1))) := ⟨_, rfl⟩
                obtain ⟨c31, hc31⟩ : ∃ cq_, cq_ = c0 - ((ji28) : Int).toNat := ⟨_, rfl⟩
                have hy31 : y129.length = l0.length - ((ji28) : Int).toNat := (by rw [Ny129.out, List.length_drop] <;> omega)
                rw [show (l0).drop ((ji28) : Int).toNat = y129 from Ny129.out.symm] at hr31
                replace hr31 : Kd.F (Kd.int .u8) _ _ A31 y129.length y129 := (by rw [hA31]; exact hr31)
                rw [← hy31, ← hA31, ← hc31] at hcut31
                have HO133 := Aside0.mk (show Kd.V (Kd.int .u8) 5 _ w.heap.size _ (.slice A31 y129.length c31) y129 from Kd.V_mk (by rw [hy31, hc31]; exact Nat.sub_le_sub_right hroom31 _) hr31)
                have HC133 := Aside0.mk (show y129.length ≤ c31 from by rw [hy31, hc31]; exact Nat.sub_le_sub_right hroom31 _)
                clear hr31 hC31 hroom31 hi031 hsz31 hc31
                have KY31 := Aside0.mk hy31
                have KA31 := Aside0.mk hA31
                clear hy31 hA31
                replace q31 := eq_true q31
                go_wp2
                go_loopg [6] kj21 (fun kq v6 w' => ∃ (x6_3 : Int), v6 = .int .i64 x6_3 ∧ Aside0 (parlanceref03_field.l1 kq x4_1 y129 x6_3 = some r) ∧ Aside0 (kq ≤ kj21) ∧ Aside0 (Kd.R (Kd.int .u8) 5 w' w.heap.size (fun k_ => (w.heap.size ≤ k_)) u4 x4_1) ∧ Aside0 (Kd.V (Kd.int .u8) 5 w' w.heap.size (fun k_ => (P0_ k_ ∨ w.heap.size ≤ k_) ∧ some k_ ≠ (u4 : Value).ownBlock) (.slice A31 y129.length c31) y129) ∧ Aside0 (Below w.heap.size w w'))
                case atStart => exact ⟨(0), (by first | rfl | (simp; done) | (simp [*]; done)), H', ⟨Nat.le_refl _⟩, ⟨by (with_reducible repeat (first | apply Kd.R_alloc | apply Kd.R_drewN | apply Kd.R_drew)); exact HO_4.out⟩, ⟨by (with_reducible repeat (first | apply Kd.V_alloc | apply Kd.V_drewN | apply Kd.V_drew)); exact HO133.out⟩, ⟨by repeat (first | (with_reducible first | exact HB.out | apply below_alloc | apply pw_below_drewN | apply below_drew1) | exact HB.out)⟩⟩
                case round =>
                  clear H'
                  try clear c1
                  try clear p1
                  try clear q1
                  try clear hx1
                  try clear c2
                  try clear p2
                  try clear c3
                  try clear q3
                  try clear c5
                  try clear c5b0
                  try clear c6
                  try clear c6b0
                  try clear p6
                  try clear c8
                  try clear c8b0
                  try clear c10
                  try clear c10b0
                  try clear p10
                  try clear q10
                  try clear hx10
                  try clear p11
                  try clear q11
                  try clear hx11
                  try clear c12
                  try clear p12
                  try clear q12
                  try clear hx12
                  try clear c14
                  try clear c14b0
                  try clear c14b1
                  try clear c16
                  try clear c18
                  try clear c18b0
                  try clear c18b1
                  try clear c20
                  try clear c23
                  try clear c23b0
                  try clear c23b1
                  try clear c24
                  try clear c24b0
                  try clear c24b1
                  try clear c25
                  try clear c25b0
                  try clear c26
                  try clear c26b0
                  try clear c27
                  try clear c29
                  try clear c29b0
                  try clear c29b1
                  try clear c30
                  try clear c30b0
                  try clear c30b1
                  try clear c31
                  try clear q31
                  try clear hx107_0
                  try clear hx109_0
                  try clear hx111_0
                  try clear hx116_0
                  try clear hx117_0
                  try clear hx122_0
                  try clear hx123_0
                  try clear hx128_0
                  try clear p1
                  try clear p10
                  try clear p107
                  try clear p109
                  try clear p11
                  try clear p111
                  try clear p116
                  try clear p117
                  try clear p12
                  try clear p122
                  try clear p123
                  try clear p128
                  try clear p2
                  try clear p6
                  try clear q031
                  try clear q1
                  try clear q10
                  try clear q107
                  try clear q109
                  try clear q11
                  try clear q111
                  try clear q116
                  try clear q117
                  try clear q12
                  try clear q122
                  try clear q123
                  try clear q128
                  try clear q31
                  obtain ⟨x6_3, rfl, HA, HK3, HO_4, HO_5, HB⟩ := hrel
                  cases gk with
                  | zero => exact absurd HA.out (by simp [parlanceref03_field.l1])
                  | succ k3 =>
                    have H := HA.out
                    clear HA
                    simp only [parlanceref03_field.l1] at H
                    by_cases c32 : x6_3 < (y129.length : Int)
                    · rw [if_pos c32] at H
                      have c32b0 : decide (x6_3 < (y129.length : Int)) = true := decide_eq_true c32
                      clear c32
                      by_cases c33 : 0 ≤ x6_3
                      · rw [if_pos c33] at H
                        have c33b0 : decide (0 ≤ x6_3) = true := decide_eq_true c33
                        clear c33
                        by_cases c34 : (rd y129 x6_3) = 13
                        · rw [if_pos c34] at H
                          have c34b0 : ((rd y129 x6_3) == 13) = true := beq_iff_eq.mpr c34
                          have c34b1 : ((rd y129 x6_3) != 13) = false := bne_eq_false_iff_eq.mpr c34
                          clear c34
                          obtain rfl := Option.some.inj H
                          have p134 : 0 ≤ (x6_3 : Int) := of_decide_eq_true (by first | (with_reducible assumption) | assumption)
                          have q134 : x6_3 < (y129.length : Int) := of_decide_eq_true (by first | (with_reducible assumption) | assumption)
                          obtain ⟨ad134, e134, hx134_0⟩ := Kd.at_int (Kd.V_reads' HO_5.out).2.2 x6_3 p134 q134
                          cases e134
                          replace p134 := eq_true p134
                          replace q134 := eq_true q134
                          go_wp2
                          go_ret
                          exact ⟨by first | rfl | (simp [errW_none, errW_some] <;> rfl) | (simp only [← hji28]; first | rfl | (simp [errW_none, errW_some] <;> rfl)) | (simp [*, errW_none, errW_some] <;> rfl), by repeat (first | (with_reducible first | exact HB.out | apply below_alloc | apply pw_below_drewN | apply below_drew1) | exact HB.out)⟩
                        · rw [if_neg c34] at H
                          have c34b0 : ((rd y129 x6_3) == 13) = false := beq_eq_false_iff_ne.mpr c34
                          have c34b1 : ((rd y129 x6_3) != 13) = true := bne_iff_ne.mpr c34
                          by_cases c35 : (rd y129 x6_3) = 10
                          · rw [if_pos c35] at H
                            have c35b0 : ((rd y129 x6_3) == 10) = true := beq_iff_eq.mpr c35
                            have c35b1 : ((rd y129 x6_3) != 10) = false := bne_eq_false_iff_eq.mpr c35
                            clear c35
                            obtain rfl := Option.some.inj H
                            have p134 : 0 ≤ (x6_3 : Int) := of_decide_eq_true (by first | (with_reducible assumption) | assumption)
                            have q134 : x6_3 < (y129.length : Int) := of_decide_eq_true (by first | (with_reducible assumption) | assumption)
                            obtain ⟨ad134, e134, hx134_0⟩ := Kd.at_int (Kd.V_reads' HO_5.out).2.2 x6_3 p134 q134
                            cases e134
                            replace p134 := eq_true p134
                            replace q134 := eq_true q134
                            have p135 : 0 ≤ (x6_3 : Int) := of_decide_eq_true (by first | (with_reducible assumption) | assumption)
                            have q135 : x6_3 < (y129.length : Int) := of_decide_eq_true (by first | (with_reducible assumption) | assumption)
                            obtain ⟨ad135, e135, hx135_0⟩ := Kd.at_int (Kd.V_reads' HO_5.out).2.2 x6_3 p135 q135
                            obtain rfl : ad134 = ad135 := (by injection e135)
                            replace p135 := eq_true p135
                            replace q135 := eq_true q135
                            go_wp2
                            go_ret
                            exact ⟨by first | rfl | (simp [errW_none, errW_some] <;> rfl) | (simp only [← hji28]; first | rfl | (simp [errW_none, errW_some] <;> rfl)) | (simp [*, errW_none, errW_some] <;> rfl), by repeat (first | (with_reducible first | exact HB.out | apply below_alloc | apply pw_below_drewN | apply below_drew1) | exact HB.out)⟩
                          · rw [if_neg c35] at H
                            have c35b0 : ((rd y129 x6_3) == 10) = false := beq_eq_false_iff_ne.mpr c35
                            have c35b1 : ((rd y129 x6_3) != 10) = true := bne_iff_ne.mpr c35
                            have H' := Aside0.mk H
                            clear H
                            have p134 : 0 ≤ (x6_3 : Int) := of_decide_eq_true (by first | (with_reducible assumption) | assumption)
                            have q134 : x6_3 < (y129.length : Int) := of_decide_eq_true (by first | (with_reducible assumption) | assumption)
                            obtain ⟨ad134, e134, hx134_0⟩ := Kd.at_int (Kd.V_reads' HO_5.out).2.2 x6_3 p134 q134
                            cases e134
                            replace p134 := eq_true p134
                            replace q134 := eq_true q134
                            have p135 : 0 ≤ (x6_3 : Int) := of_decide_eq_true (by first | (with_reducible assumption) | assumption)
                            have q135 : x6_3 < (y129.length : Int) := of_decide_eq_true (by first | (with_reducible assumption) | assumption)
                            obtain ⟨ad135, e135, hx135_0⟩ := Kd.at_int (Kd.V_reads' HO_5.out).2.2 x6_3 p135 q135
                            obtain rfl : ad134 = ad135 := (by injection e135)
                            replace p135 := eq_true p135
                            replace q135 := eq_true q135
                            go_wp2
                            go_roundg k3
                            case measure => have := HJ1.out; have := HJ21.out; have := HK3.out; omega
                            case rel => exact ⟨(wrap64 (x6_3 + 1)), (by first | rfl | (simp; done) | (simp [*]; done)), H', ⟨by have := HJ1.out; have := HJ21.out; have := HK3.out; omega⟩, ⟨by (with_reducible repeat (first | apply Kd.R_alloc | apply Kd.R_drewN | apply Kd.R_drew)); exact HO_4.out⟩, ⟨by (with_reducible repeat (first | apply Kd.V_alloc | apply Kd.V_drewN | apply Kd.V_drew)); exact HO_5.out⟩, ⟨by repeat (first | (with_reducible first | exact HB.out | apply below_alloc | apply pw_below_drewN | apply below_drew1) | exact HB.out)⟩⟩
                      · rw [if_neg c33] at H
                        exact absurd H (by simp)
                    · rw [if_neg c32] at H
                      have c32b0 : decide (x6_3 < (y129.length : Int)) = false := decide_eq_false c32
                      clear c32
                      by_cases c36 : (strOfNums x4_1).toList = ([99, 111, 110, 116, 101, 110, 116, 45, 108, 101, 110, 103, 116, 104] : List UInt8)
                      · rw [if_pos c36] at H
                        have c36b0 : ((strOfNums x4_1).toList == ([99, 111, 110, 116, 101, 110, 116, 45, 108, 101, 110, 103, 116, 104] : List UInt8)) = true := beq_iff_eq.mpr c36
                        have c36b1 : ((strOfNums x4_1).toList != ([99, 111, 110, 116, 101, 110, 116, 45, 108, 101, 110, 103, 116, 104] : List UInt8)) = false := bne_eq_false_iff_eq.mpr c36
                        clear c36
                        have HC37 := Aside0.mk H
                        clear H
                        have hcv38 := own_string (P := Tryz.prog) Tryz.underlying27 Tryz.underlying5 Tryz.underlying9 (Kd.own_of_R HO_4.out)
                        go_upto_block 4 with (fail)
                        go_cut [5] (fun v5 wc => ∃ (kq : Nat) (x5_36 : List Int), Aside0 (parlanceref03_field.j5 kq x5_36 = some r) ∧ Aside0 (kq ≤ k3) ∧ Aside0 (Kd.V (Kd.int .u8) 5 wc w.heap.size (fun k_ => (P0_ k_ ∨ w.heap.size ≤ k_)) v5 x5_36) ∧ Aside0 (Below w.heap.size w wc))
                        case first =>
                          have H := HC37.out
                          clear HC37
                          have H' := Aside0.mk H
                          clear H
                          go_wp2
                          go_loopg [5] k3 (fun kq v5 w' => ∃ (x5_4 : List Int), Aside0 (parlanceref03_field.l2 kq x5_4 = some r) ∧ Aside0 (kq ≤ k3) ∧ Aside0 (Kd.V (Kd.int .u8) 5 w' w.heap.size (fun k_ => (P0_ k_ ∨ w.heap.size ≤ k_)) v5 x5_4) ∧ Aside0 (Below w.heap.size w w'))
                          case atStart => exact ⟨(y129), H', ⟨Nat.le_refl _⟩, ⟨by (with_reducible repeat (first | apply Kd.V_alloc | apply Kd.V_drewN | apply Kd.V_drew)); exact Kd.V_mono HO_5.out (fun _ hk => hk.1)⟩, ⟨by repeat (first | (with_reducible first | exact HB.out | apply below_alloc | apply pw_below_drewN | apply below_drew1) | exact HB.out)⟩⟩
                          case round =>
                            clear H'
                            try clear c1
                            try clear p1
                            try clear q1
                            try clear hx1
                            try clear c2
                            try clear p2
                            try clear c3
                            try clear q3
                            try clear hcv3
                            try clear c5
                            try clear c5b0
                            try clear c6
                            try clear c6b0
                            try clear p6
                            try clear c8
                            try clear c8b0
                            try clear c10
                            try clear c10b0
                            try clear p10
                            try clear q10
                            try clear hx10
                            try clear p11
                            try clear q11
                            try clear hx11
                            try clear c12
                            try clear p12
                            try clear q12
                            try clear hx12
                            try clear p13
                            try clear q13
                            try clear hx13
                            try clear c14
                            try clear c14b0
                            try clear c14b1
                            try clear c16
                            try clear c18
                            try clear c18b0
                            try clear c18b1
                            try clear c20
                            try clear c23
                            try clear c23b0
                            try clear c23b1
                            try clear c24
                            try clear c24b0
                            try clear c24b1
                            try clear c25
                            try clear c25b0
                            try clear c26
                            try clear c26b0
                            try clear c27
                            try clear c29
                            try clear c29b0
                            try clear c29b1
                            try clear c30
                            try clear c30b0
                            try clear c30b1
                            try clear c31
                            try clear q31
                            try clear c32
                            try clear c32b0
                            try clear c33
                            try clear c33b0
                            try clear c34
                            try clear c34b0
                            try clear c34b1
                            try clear c35
                            try clear c35b0
                            try clear c35b1
                            try clear c36
                            try clear c36b0
                            try clear c36b1
                            try clear hcv38
                            try clear hx107_0
                            try clear hx109_0
                            try clear hx111_0
                            try clear hx116_0
                            try clear hx117_0
                            try clear hx122_0
                            try clear hx123_0
                            try clear hx128_0
                            try clear hx134_0
                            try clear hx135_0
                            try clear p1
                            try clear p10
                            try clear p107
                            try clear p109
                            try clear p11
                            try clear p111
                            try clear p116
                            try clear p117
                            try clear p12
                            try clear p122
                            try clear p123
                            try clear p128
                            try clear p134
                            try clear p135
                            try clear p2
                            try clear p6
                            try clear q031
                            try clear q1
                            try clear q10
                            try clear q107
                            try clear q109
                            try clear q11
                            try clear q111
                            try clear q116
                            try clear q117
                            try clear q12
                            try clear q122
                            try clear q123
                            try clear q128
                            try clear q134
                            try clear q135
                            try clear q3
                            try clear q31
                            obtain ⟨x5_4, HA, HK4, HO_5, HB⟩ := hrel
                            cases gk with
                            | zero => exact absurd HA.out (by simp [parlanceref03_field.l2])
                            | succ k4 =>
                              have H := HA.out
                              clear HA
                              simp only [parlanceref03_field.l2] at H
                              by_cases c39 : (x5_4.length : Int) > 0
                              · rw [if_pos c39] at H
                                have c39b0 : decide (0 < (x5_4.length : Int)) = true := decide_eq_true c39
                                have c39b1 : decide (0 < x5_4.length) = true := decide_eq_true (by omega)
                                clear c39
                                (first | rw [c39b0] | (simp only [i64_w, i32_w]; rw [c39b0]) | skip)
                                by_cases c40 : 0 < (x5_4.length : Int)
                                · rw [if_pos c40] at H
                                  have c40b0 : decide (0 < (x5_4.length : Int)) = true := decide_eq_true c40
                                  have c40b1 : decide (0 < x5_4.length) = true := decide_eq_true (by omega)
                                  clear c40
                                  by_cases c41 : (rd x5_4 0) = 32
                                  · rw [if_pos c41] at H
                                    have c41b0 : ((rd x5_4 0) == 32) = true := beq_iff_eq.mpr c41
                                    have c41b1 : ((rd x5_4 0) != 32) = false := bne_eq_false_iff_eq.mpr c41
                                    clear c41
                                    by_cases c42 : 1 ≤ (x5_4.length : Int)
                                    · rw [if_pos c42] at H
                                      have c42b0 := eq_true c42
                                      have c42b1 : decide (1 ≤ (x5_4.length : Int)) = true := decide_eq_true c42
                                      clear c42
                                      obtain ⟨y137, hy137⟩ : ∃ y_ : List Int, y_ = (x5_4.drop 1) := ⟨_, rfl⟩
                                      replace H : (parlanceref03_field.l2 k4 y137) = some r := by first | (rw [hy137]; with_reducible exact H) | (have H2_ := (Option.bind_some _ _).symm.trans H; rw [hy137]; with_reducible exact H2_) | (have H2_ := (Option.bind_some _ _).symm.trans H; with_reducible exact H2_) | with_reducible exact H | (rw [hy137]; exact H) | exact H
                                      have Ny137 := Aside0.mk hy137
                                      clear hy137
                                      have H' := Aside0.mk H
                                      clear H
                                      obtain ⟨Ao43, co43, eo43⟩ := Kd.V_slice HO_5.out
                                      subst eo43
                                      have p136 : 0 ≤ (0 : Int) := (by omega)
                                      have q136 : 0 < (x5_4.length : Int) := of_decide_eq_true (by first | (with_reducible assumption) | assumption)
                                      obtain ⟨ad136, e136, hx136_0⟩ := Kd.at_int (Kd.V_reads' HO_5.out).2.2 0 p136 q136
                                      cases e136
                                      have qi136 : (0 < x5_4.length) = True := eq_true (by omega)
                                      (try rw [show ((0 : Int)).toNat = 0 from rfl] at hx136_0)
                                      (try rw [Addr.add_zero'] at hx136_0)
                                      replace p136 := eq_true p136
                                      replace q136 := eq_true q136
                                      have q44 : (1 : Int) ≤ ((x5_4.length : Int) : Int) := of_decide_eq_true (by first | (with_reducible assumption) | assumption)
                                      obtain ⟨i044, hi044, _, hsz44, _⟩ := info_parts info5
                                      have hroom44 : x5_4.length ≤ co43 := (Kd.V_reads' HO_5.out).2.1
                                      have hC44 : Kd.F (Kd.int .u8) _ _ (some ad136) x5_4.length x5_4 := (Kd.V_at (base := w.heap.size) HO_5.out).2.2
                                      have hcut44 := cut_from (P := Tryz.prog) 27 5 .i64 Tryz.underlying27 hi044 1 hsz44 (some ad136) x5_4.length co43 1 (by omega) q44
                                      have hr44 := Kd.F_cut (m := (1 : Int).toNat) (c := co43) hC44 (by omega) hroom44
                                      obtain ⟨A44, hA44⟩ : ∃ Aq_, Aq_ = (if co43 = (1 : Int).toNat then (some ad136) else ((some ad136) : Option Addr).map (·.add ((1 : Int).toNat * 1))) := ⟨_, rfl⟩
                                      obtain ⟨c44, hc44⟩ : ∃ cq_, cq_ = co43 - (1 : Int).toNat := ⟨_, rfl⟩
                                      have hy44 : y137.length = x5_4.length - (1 : Int).toNat := (by rw [Ny137.out, List.length_drop] <;> omega)
                                      rw [show (x5_4).drop (1 : Int).toNat = y137 from Ny137.out.symm] at hr44
                                      replace hr44 : Kd.F (Kd.int .u8) _ _ A44 y137.length y137 := (by rw [hA44]; exact hr44)
                                      rw [← hy44, ← hA44, ← hc44] at hcut44
                                      have HO141 := Aside0.mk (show Kd.V (Kd.int .u8) 5 _ w.heap.size _ (.slice A44 y137.length c44) y137 from Kd.V_mk (by rw [hy44, hc44]; exact Nat.sub_le_sub_right hroom44 _) hr44)
                                      have HC141 := Aside0.mk (show y137.length ≤ c44 from by rw [hy44, hc44]; exact Nat.sub_le_sub_right hroom44 _)
                                      clear hr44 hC44 hroom44 hi044 hsz44 hc44
                                      have KY44 := Aside0.mk hy44
                                      have KA44 := Aside0.mk hA44
                                      clear hy44 hA44
                                      replace q44 := eq_true q44
                                      go_wp2
                                      go_roundg k4
                                      case measure => have := HJ1.out; have := HJ21.out; have := HK3.out; have := HK4.out; omega
                                      case rel => exact ⟨(y137), H', ⟨by have := HJ1.out; have := HJ21.out; have := HK3.out; have := HK4.out; omega⟩, ⟨by (with_reducible repeat (first | apply Kd.V_alloc | apply Kd.V_drewN | apply Kd.V_drew)); exact HO141.out⟩, ⟨by repeat (first | (with_reducible first | exact HB.out | apply below_alloc | apply pw_below_drewN | apply below_drew1) | exact HB.out)⟩⟩
                                    · rw [if_neg c42] at H
                                      exact absurd H (by simp)
                                  · rw [if_neg c41] at H
                                    have c41b0 : ((rd x5_4 0) == 32) = false := beq_eq_false_iff_ne.mpr c41
                                    have c41b1 : ((rd x5_4 0) != 32) = true := bne_iff_ne.mpr c41
                                    by_cases c45 : (rd x5_4 0) = 9
                                    · rw [if_pos c45] at H
                                      have c45b0 : ((rd x5_4 0) == 9) = true := beq_iff_eq.mpr c45
                                      have c45b1 : ((rd x5_4 0) != 9) = false := bne_eq_false_iff_eq.mpr c45
                                      clear c45
                                      by_cases c46 : 1 ≤ (x5_4.length : Int)
                                      · rw [if_pos c46] at H
                                        have c46b0 := eq_true c46
                                        have c46b1 : decide (1 ≤ (x5_4.length : Int)) = true := decide_eq_true c46
                                        clear c46
                                        obtain ⟨y143, hy143⟩ : ∃ y_ : List Int, y_ = (x5_4.drop 1) := ⟨_, rfl⟩
                                        replace H : (parlanceref03_field.l2 k4 y143) = some r := by first | (rw [hy143]; with_reducible exact H) | (have H2_ := (Option.bind_some _ _).symm.trans H; rw [hy143]; with_reducible exact H2_) | (have H2_ := (Option.bind_some _ _).symm.trans H; with_reducible exact H2_) | with_reducible exact H | (rw [hy143]; exact H) | exact H
                                        have Ny143 := Aside0.mk hy143
                                        clear hy143
                                        have H' := Aside0.mk H
                                        clear H
                                        obtain ⟨Ao47, co47, eo47⟩ := Kd.V_slice HO_5.out
                                        subst eo47
                                        have p136 : 0 ≤ (0 : Int) := (by omega)
                                        have q136 : 0 < (x5_4.length : Int) := of_decide_eq_true (by first | (with_reducible assumption) | assumption)
                                        obtain ⟨ad136, e136, hx136_0⟩ := Kd.at_int (Kd.V_reads' HO_5.out).2.2 0 p136 q136
                                        cases e136
                                        have qi136 : (0 < x5_4.length) = True := eq_true (by omega)
                                        (try rw [show ((0 : Int)).toNat = 0 from rfl] at hx136_0)
                                        (try rw [Addr.add_zero'] at hx136_0)
                                        replace p136 := eq_true p136
                                        replace q136 := eq_true q136
                                        have p142 : 0 ≤ (0 : Int) := (by omega)
                                        have q142 : 0 < (x5_4.length : Int) := of_decide_eq_true (by first | (with_reducible assumption) | assumption)
                                        obtain ⟨ad142, e142, hx142_0⟩ := Kd.at_int (Kd.V_reads' HO_5.out).2.2 0 p142 q142
                                        obtain rfl : ad136 = ad142 := (by injection e142)
                                        have qi142 : (0 < x5_4.length) = True := eq_true (by omega)
                                        (try rw [show ((0 : Int)).toNat = 0 from rfl] at hx142_0)
                                        (try rw [Addr.add_zero'] at hx142_0)
                                        replace p142 := eq_true p142
                                        replace q142 := eq_true q142
                                        have q48 : (1 : Int) ≤ ((x5_4.length : Int) : Int) := of_decide_eq_true (by first | (with_reducible assumption) | assumption)
                                        obtain ⟨i048, hi048, _, hsz48, _⟩ := info_parts info5
                                        have hroom48 : x5_4.length ≤ co47 := (Kd.V_reads' HO_5.out).2.1
                                        have hC48 : Kd.F (Kd.int .u8) _ _ (some ad136) x5_4.length x5_4 := (Kd.V_at (base := w.heap.size) HO_5.out).2.2
                                        have hcut48 := cut_from (P := Tryz.prog) 27 5 .i64 Tryz.underlying27 hi048 1 hsz48 (some ad136) x5_4.length co47 1 (by omega) q48
                                        have hr48 := Kd.F_cut (m := (1 : Int).toNat) (c := co47) hC48 (by omega) hroom48
                                        obtain ⟨A48, hA48⟩ : ∃ Aq_, Aq_ = (if co47 = (1 : Int).toNat then (some ad136) else ((some ad136) : Option Addr).map (·.add ((1 : Int).toNat * 1))) := ⟨_, rfl⟩
                                        obtain ⟨c48, hc48⟩ : ∃ cq_, cq_ = co47 - (1 : Int).toNat := ⟨_, rfl⟩
                                        have hy48 : y143.length = x5_4.length - (1 : Int).toNat := (by rw [Ny143.out, List.length_drop] <;> omega)
                                        rw [show (x5_4).drop (1 : Int).toNat = y143 from Ny143.out.symm] at hr48
                                        replace hr48 : Kd.F (Kd.int .u8) _ _ A48 y143.length y143 := (by rw [hA48]; exact hr48)
                                        rw [← hy48, ← hA48, ← hc48] at hcut48
                                        have HO147 := Aside0.mk (show Kd.V (Kd.int .u8) 5 _ w.heap.size _ (.slice A48 y143.length c48) y143 from Kd.V_mk (by rw [hy48, hc48]; exact Nat.sub_le_sub_right hroom48 _) hr48)
                                        have HC147 := Aside0.mk (show y143.length ≤ c48 from by rw [hy48, hc48]; exact Nat.sub_le_sub_right hroom48 _)
                                        clear hr48 hC48 hroom48 hi048 hsz48 hc48
                                        have KY48 := Aside0.mk hy48
                                        have KA48 := Aside0.mk hA48
                                        clear hy48 hA48
                                        replace q48 := eq_true q48
                                        go_wp2
                                        go_roundg k4
                                        case measure => have := HJ1.out; have := HJ21.out; have := HK3.out; have := HK4.out; omega
                                        case rel => exact ⟨(y143), H', ⟨by have := HJ1.out; have := HJ21.out; have := HK3.out; have := HK4.out; omega⟩, ⟨by (with_reducible repeat (first | apply Kd.V_alloc | apply Kd.V_drewN | apply Kd.V_drew)); exact HO147.out⟩, ⟨by repeat (first | (with_reducible first | exact HB.out | apply below_alloc | apply pw_below_drewN | apply below_drew1) | exact HB.out)⟩⟩
                                      · rw [if_neg c46] at H
                                        exact absurd H (by simp)
                                    · rw [if_neg c45] at H
                                      have c45b0 : ((rd x5_4 0) == 9) = false := beq_eq_false_iff_ne.mpr c45
                                      have c45b1 : ((rd x5_4 0) != 9) = true := bne_iff_ne.mpr c45
                                      have H' := Aside0.mk H
                                      clear H
                                      obtain ⟨Ao49, co49, eo49⟩ := Kd.V_slice HO_5.out
                                      subst eo49
                                      have p136 : 0 ≤ (0 : Int) := (by omega)
                                      have q136 : 0 < (x5_4.length : Int) := of_decide_eq_true (by first | (with_reducible assumption) | assumption)
                                      obtain ⟨ad136, e136, hx136_0⟩ := Kd.at_int (Kd.V_reads' HO_5.out).2.2 0 p136 q136
                                      cases e136
                                      have qi136 : (0 < x5_4.length) = True := eq_true (by omega)
                                      (try rw [show ((0 : Int)).toNat = 0 from rfl] at hx136_0)
                                      (try rw [Addr.add_zero'] at hx136_0)
                                      replace p136 := eq_true p136
                                      replace q136 := eq_true q136
                                      have p142 : 0 ≤ (0 : Int) := (by omega)
                                      have q142 : 0 < (x5_4.length : Int) := of_decide_eq_true (by first | (with_reducible assumption) | assumption)
                                      obtain ⟨ad142, e142, hx142_0⟩ := Kd.at_int (Kd.V_reads' HO_5.out).2.2 0 p142 q142
                                      obtain rfl : ad136 = ad142 := (by injection e142)
                                      have qi142 : (0 < x5_4.length) = True := eq_true (by omega)
                                      (try rw [show ((0 : Int)).toNat = 0 from rfl] at hx142_0)
                                      (try rw [Addr.add_zero'] at hx142_0)
                                      replace p142 := eq_true p142
                                      replace q142 := eq_true q142
                                      go_wp2
                                      go_meet
                                      case rel => exact ⟨_, (x5_4), H', ⟨by have := HJ1.out; have := HJ21.out; have := HK3.out; have := HK4.out; first | omega | exact Nat.le_refl _⟩, ⟨by (with_reducible repeat (first | apply Kd.V_alloc | apply Kd.V_drewN | apply Kd.V_drew)); exact HO_5.out⟩, ⟨by repeat (first | (with_reducible first | exact HB.out | apply below_alloc | apply pw_below_drewN | apply below_drew1) | exact HB.out)⟩⟩
                                · rw [if_neg c40] at H
                                  exact absurd H (by simp)
                              · rw [if_neg c39] at H
                                have c39b0 : decide (0 < (x5_4.length : Int)) = false := decide_eq_false c39
                                have c39b1 : decide (0 < x5_4.length) = false := decide_eq_false (by omega)
                                clear c39
                                (first | rw [c39b0] | (simp only [i64_w, i32_w]; rw [c39b0]) | skip)
                                have H' := Aside0.mk H
                                clear H
                                obtain ⟨Ao50, co50, eo50⟩ := Kd.V_slice HO_5.out
                                subst eo50
                                go_wp2
                                go_meet
                                case rel => exact ⟨_, (x5_4), H', ⟨by have := HJ1.out; have := HJ21.out; have := HK3.out; have := HK4.out; first | omega | exact Nat.le_refl _⟩, ⟨by (with_reducible repeat (first | apply Kd.V_alloc | apply Kd.V_drewN | apply Kd.V_drew)); exact HO_5.out⟩, ⟨by repeat (first | (with_reducible first | exact HB.out | apply below_alloc | apply pw_below_drewN | apply below_drew1) | exact HB.out)⟩⟩
                        case rest =>
                          clear HC37
                          try clear c1
                          try clear p1
                          try clear q1
                          try clear hx1
                          try clear qi1
                          try clear c2
                          try clear p2
                          try clear c3
                          try clear q3
                          try clear hcv3
                          try clear c4
                          try clear q4
                          try clear c5
                          try clear c5b0
                          try clear c6
                          try clear c6b0
                          try clear p6
                          try clear c8
                          try clear c8b0
                          try clear c10
                          try clear c10b0
                          try clear p10
                          try clear q10
                          try clear hx10
                          try clear p11
                          try clear q11
                          try clear hx11
                          try clear c12
                          try clear p12
                          try clear q12
                          try clear hx12
                          try clear p13
                          try clear q13
                          try clear hx13
                          try clear qi13
                          try clear c14
                          try clear c14b0
                          try clear c14b1
                          try clear p14
                          try clear q14
                          try clear hx14
                          try clear qi14
                          try clear c16
                          try clear c18
                          try clear c18b0
                          try clear c18b1
                          try clear c20
                          try clear c23
                          try clear c23b0
                          try clear c23b1
                          try clear c24
                          try clear c24b0
                          try clear c24b1
                          try clear c25
                          try clear c25b0
                          try clear c26
                          try clear c26b0
                          try clear c27
                          try clear c29
                          try clear c29b0
                          try clear c29b1
                          try clear c30
                          try clear c30b0
                          try clear c30b1
                          try clear c31
                          try clear q31
                          try clear c32
                          try clear c32b0
                          try clear c33
                          try clear c33b0
                          try clear c34
                          try clear c34b0
                          try clear c34b1
                          try clear c35
                          try clear c35b0
                          try clear c35b1
                          try clear c36
                          try clear c36b0
                          try clear c36b1
                          try clear hcv38
                          try clear c39
                          try clear c39b0
                          try clear c39b1
                          try clear c40
                          try clear c40b0
                          try clear c40b1
                          try clear c41
                          try clear c41b0
                          try clear c41b1
                          try clear c42
                          try clear c42b0
                          try clear c42b1
                          try clear c44
                          try clear q44
                          try clear c45
                          try clear c45b0
                          try clear c45b1
                          try clear c46
                          try clear c46b0
                          try clear c46b1
                          try clear c48
                          try clear q48
                          try clear hx107_0
                          try clear hx109_0
                          try clear hx111_0
                          try clear hx116_0
                          try clear hx117_0
                          try clear hx122_0
                          try clear hx123_0
                          try clear hx128_0
                          try clear hx134_0
                          try clear hx135_0
                          try clear hx136_0
                          try clear hx142_0
                          try clear p1
                          try clear p10
                          try clear p107
                          try clear p109
                          try clear p11
                          try clear p111
                          try clear p116
                          try clear p117
                          try clear p12
                          try clear p122
                          try clear p123
                          try clear p128
                          try clear p13
                          try clear p134
                          try clear p135
                          try clear p136
                          try clear p142
                          try clear p2
                          try clear p6
                          try clear q031
                          try clear q1
                          try clear q10
                          try clear q107
                          try clear q109
                          try clear q11
                          try clear q111
                          try clear q116
                          try clear q117
                          try clear q12
                          try clear q122
                          try clear q123
                          try clear q128
                          try clear q13
                          try clear q134
                          try clear q135
                          try clear q136
                          try clear q142
                          try clear q3
                          try clear q31
                          try clear q44
                          try clear q48
                          obtain ⟨kq, x5_36, HA, HJ36, HO_5, HB⟩ := hcut
                          cases kq with
                          | zero => exact absurd HA.out (by simp [parlanceref03_field.j5])
                          | succ kj36 =>
                            have H := HA.out
                            clear HA
                            simp only [parlanceref03_field.j5] at H
                            have HC51 := Aside0.mk H
                            clear H
                            go_upto_block 6 with (fail)
                            go_cut [5] (fun v5 wc => ∃ (kq : Nat) (x5_50 : List Int), Aside0 (parlanceref03_field.j7 kq x5_50 = some r) ∧ Aside0 (kq ≤ kj36) ∧ Aside0 (Kd.V (Kd.int .u8) 5 wc w.heap.size (fun k_ => (P0_ k_ ∨ w.heap.size ≤ k_)) v5 x5_50) ∧ Aside0 (Below w.heap.size w wc))
                            case first =>
                              have H := HC51.out
                              clear HC51
                              have H' := Aside0.mk H
                              clear H
                              go_wp2
                              go_loopg [5] kj36 (fun kq v5 w' => ∃ (x5_5 : List Int), Aside0 (parlanceref03_field.l3 kq x5_5 = some r) ∧ Aside0 (kq ≤ kj36) ∧ Aside0 (Kd.V (Kd.int .u8) 5 w' w.heap.size (fun k_ => (P0_ k_ ∨ w.heap.size ≤ k_)) v5 x5_5) ∧ Aside0 (Below w.heap.size w w'))
                              case atStart => exact ⟨(x5_36), H', ⟨Nat.le_refl _⟩, ⟨by (with_reducible repeat (first | apply Kd.V_alloc | apply Kd.V_drewN | apply Kd.V_drew)); exact HO_5.out⟩, ⟨by repeat (first | (with_reducible first | exact HB.out | apply below_alloc | apply pw_below_drewN | apply below_drew1) | exact HB.out)⟩⟩
                              case round =>
                                clear H'
                                try clear c1
                                try clear p1
                                try clear q1
                                try clear hx1
                                try clear qi1
                                try clear c2
                                try clear p2
                                try clear c3
                                try clear q3
                                try clear hcv3
                                try clear c4
                                try clear q4
                                try clear c5
                                try clear c5b0
                                try clear c6
                                try clear c6b0
                                try clear p6
                                try clear c8
                                try clear c8b0
                                try clear c10
                                try clear c10b0
                                try clear p10
                                try clear q10
                                try clear hx10
                                try clear p11
                                try clear q11
                                try clear hx11
                                try clear c12
                                try clear p12
                                try clear q12
                                try clear hx12
                                try clear p13
                                try clear q13
                                try clear hx13
                                try clear qi13
                                try clear c14
                                try clear c14b0
                                try clear c14b1
                                try clear p14
                                try clear q14
                                try clear hx14
                                try clear qi14
                                try clear c16
                                try clear c18
                                try clear c18b0
                                try clear c18b1
                                try clear c20
                                try clear c23
                                try clear c23b0
                                try clear c23b1
                                try clear c24
                                try clear c24b0
                                try clear c24b1
                                try clear c25
                                try clear c25b0
                                try clear c26
                                try clear c26b0
                                try clear c27
                                try clear c29
                                try clear c29b0
                                try clear c29b1
                                try clear c30
                                try clear c30b0
                                try clear c30b1
                                try clear c31
                                try clear q31
                                try clear c32
                                try clear c32b0
                                try clear c33
                                try clear c33b0
                                try clear c34
                                try clear c34b0
                                try clear c34b1
                                try clear c35
                                try clear c35b0
                                try clear c35b1
                                try clear c36
                                try clear c36b0
                                try clear c36b1
                                try clear hcv38
                                try clear c39
                                try clear c39b0
                                try clear c39b1
                                try clear c40
                                try clear c40b0
                                try clear c40b1
                                try clear c41
                                try clear c41b0
                                try clear c41b1
                                try clear c42
                                try clear c42b0
                                try clear c42b1
                                try clear c44
                                try clear q44
                                try clear c45
                                try clear c45b0
                                try clear c45b1
                                try clear c46
                                try clear c46b0
                                try clear c46b1
                                try clear c48
                                try clear q48
                                try clear hx107_0
                                try clear hx109_0
                                try clear hx111_0
                                try clear hx116_0
                                try clear hx117_0
                                try clear hx122_0
                                try clear hx123_0
                                try clear hx128_0
                                try clear hx134_0
                                try clear hx135_0
                                try clear hx136_0
                                try clear hx142_0
                                try clear p1
                                try clear p10
                                try clear p107
                                try clear p109
                                try clear p11
                                try clear p111
                                try clear p116
                                try clear p117
                                try clear p12
                                try clear p122
                                try clear p123
                                try clear p128
                                try clear p13
                                try clear p134
                                try clear p135
                                try clear p136
                                try clear p14
                                try clear p142
                                try clear p2
                                try clear p6
                                try clear q031
                                try clear q1
                                try clear q10
                                try clear q107
                                try clear q109
                                try clear q11
                                try clear q111
                                try clear q116
                                try clear q117
                                try clear q12
                                try clear q122
                                try clear q123
                                try clear q128
                                try clear q13
                                try clear q134
                                try clear q135
                                try clear q136
                                try clear q14
                                try clear q142
                                try clear q3
                                try clear q31
                                try clear q4
                                try clear q44
                                try clear q48
                                obtain ⟨x5_5, HA, HK5, HO_5, HB⟩ := hrel
                                cases gk with
                                | zero => exact absurd HA.out (by simp [parlanceref03_field.l3])
                                | succ k5 =>
                                  have H := HA.out
                                  clear HA
                                  simp only [parlanceref03_field.l3] at H
                                  by_cases c52 : (x5_5.length : Int) > 0
                                  · rw [if_pos c52] at H
                                    have c52b0 : decide (0 < (x5_5.length : Int)) = true := decide_eq_true c52
                                    have c52b1 : decide (0 < x5_5.length) = true := decide_eq_true (by omega)
                                    clear c52
                                    (first | rw [c52b0] | (simp only [i64_w, i32_w]; rw [c52b0]) | skip)
                                    obtain ⟨ji53, hji53⟩ : ∃ j_ : Int, (wrap64 ((x5_5.length : Int) - 1)) = j_ := ⟨_, rfl⟩
                                    replace H : (if 0 ≤ (ji53) then (if (ji53) < (x5_5.length : Int) then (if (rd x5_5 (ji53)) = 32 then (if (ji53) ≤ (x5_5.length : Int) then (parlanceref03_field.l3 k5 (x5_5.take ((ji53) : Int).toNat)) else (none)) else (if (rd x5_5 (ji53)) = 9 then (if (ji53) ≤ (x5_5.length : Int) then (parlanceref03_field.l3 k5 (x5_5.take ((ji53) : Int).toNat)) else (none)) else (parlanceref03_field.j7 k5 x5_5))) else (none)) else (none)) = some r := by first | (rw [hji53] at H; exact H) | (simp only [hji53] at H ⊢; exact H)
                                    have hji53w : (IntKind.i64.wrap ((x5_5.length : Int) - 1)) = ji53 := (i64_w _).trans hji53
                                    by_cases c54 : 0 ≤ (ji53)
                                    · rw [if_pos c54] at H
                                      have c54b0 : decide (0 ≤ (ji53)) = true := decide_eq_true c54
                                      clear c54
                                      by_cases c55 : (ji53) < (x5_5.length : Int)
                                      · rw [if_pos c55] at H
                                        have c55b0 : decide ((ji53) < (x5_5.length : Int)) = true := decide_eq_true c55
                                        clear c55
                                        by_cases c56 : (rd x5_5 (ji53)) = 32
                                        · rw [if_pos c56] at H
                                          have c56b0 : ((rd x5_5 (ji53)) == 32) = true := beq_iff_eq.mpr c56
                                          have c56b1 : ((rd x5_5 (ji53)) != 32) = false := bne_eq_false_iff_eq.mpr c56
                                          clear c56
                                          have c57b0 := eq_true (of_decide_eq_true (by first | (with_reducible assumption) | assumption) : 0 ≤ (ji53))
                                          by_cases c58 : (ji53) ≤ (x5_5.length : Int)
                                          · rw [if_pos c58] at H
                                            have c58b0 := eq_true c58
                                            have c58b1 : decide ((ji53) ≤ (x5_5.length : Int)) = true := decide_eq_true c58
                                            clear c58
                                            obtain ⟨y149, hy149⟩ : ∃ y_ : List Int, y_ = (x5_5.take ((ji53) : Int).toNat) := ⟨_, rfl⟩
                                            replace H : (parlanceref03_field.l3 k5 y149) = some r := by first | (rw [hy149]; with_reducible exact H) | (have H2_ := (Option.bind_some _ _).symm.trans H; rw [hy149]; with_reducible exact H2_) | (have H2_ := (Option.bind_some _ _).symm.trans H; with_reducible exact H2_) | with_reducible exact H | (rw [hy149]; exact H) | exact H
                                            have Ny149 := Aside0.mk hy149
                                            clear hy149
                                            have H' := Aside0.mk H
                                            clear H
                                            obtain ⟨Ao59, co59, eo59⟩ := Kd.V_slice HO_5.out
                                            subst eo59
                                            have p148 : 0 ≤ ((ji53) : Int) := of_decide_eq_true (by first | (with_reducible assumption) | assumption)
                                            have q148 : (ji53) < (x5_5.length : Int) := of_decide_eq_true (by first | (with_reducible assumption) | assumption)
                                            obtain ⟨ad148, e148, hx148_0⟩ := Kd.at_int (Kd.V_reads' HO_5.out).2.2 (ji53) p148 q148
                                            cases e148
                                            replace p148 := eq_true p148
                                            replace q148 := eq_true q148
                                            have q60 : ((ji53) : Int) ≤ ((x5_5.length : Int) : Int) := of_decide_eq_true (by first | (with_reducible assumption) | assumption)
                                            obtain ⟨i060, hi060, _, hsz60, _⟩ := info_parts info5
                                            have hroom60 : x5_5.length ≤ co59 := (Kd.V_reads' HO_5.out).2.1
                                            have hC60 : Kd.F (Kd.int .u8) _ _ (some ad148) x5_5.length x5_5 := (Kd.V_at (base := w.heap.size) HO_5.out).2.2
                                            have hcut60 := cut_to (P := Tryz.prog) 27 5 .i64 Tryz.underlying27 hi060 (some ad148) x5_5.length co59 (ji53) (of_decide_eq_true (by first | (with_reducible assumption) | assumption)) q60 hroom60
                                            have hr60 := Kd.F_take (m := ((ji53) : Int).toNat) hC60 (by omega)
                                            have hy60 : y149.length = ((ji53) : Int).toNat := (by rw [Ny149.out, List.length_take]; omega)
                                            rw [← Ny149.out] at hr60
                                            rw [← hy60] at hcut60
                                            have HO153 := Aside0.mk (show Kd.V (Kd.int .u8) 5 _ w.heap.size _ (.slice (some ad148) y149.length co59) y149 from Kd.V_mk (by omega) hr60)
                                            have HC153 := Aside0.mk (show y149.length ≤ co59 from by omega)
                                            clear hr60 hC60 hroom60 hi060 hsz60
                                            have KY60 := Aside0.mk hy60
                                            clear hy60
                                            replace q60 := eq_true q60
                                            go_wp2
                                            go_roundg k5
                                            case measure => have := HJ1.out; have := HJ21.out; have := HK3.out; have := HJ36.out; have := HK5.out; omega
                                            case rel => exact ⟨(y149), H', ⟨by have := HJ1.out; have := HJ21.out; have := HK3.out; have := HJ36.out; have := HK5.out; omega⟩, ⟨by (with_reducible repeat (first | apply Kd.V_alloc | apply Kd.V_drewN | apply Kd.V_drew)); exact HO153.out⟩, ⟨by repeat (first | (with_reducible first | exact HB.out | apply below_alloc | apply pw_below_drewN | apply below_drew1) | exact HB.out)⟩⟩
                                          · rw [if_neg c58] at H
                                            exact absurd H (by simp)
                                        · rw [if_neg c56] at H
                                          have c56b0 : ((rd x5_5 (ji53)) == 32) = false := beq_eq_false_iff_ne.mpr c56
                                          have c56b1 : ((rd x5_5 (ji53)) != 32) = true := bne_iff_ne.mpr c56
                                          by_cases c61 : (rd x5_5 (ji53)) = 9
                                          · rw [if_pos c61] at H
                                            have c61b0 : ((rd x5_5 (ji53)) == 9) = true := beq_iff_eq.mpr c61
                                            have c61b1 : ((rd x5_5 (ji53)) != 9) = false := bne_eq_false_iff_eq.mpr c61
                                            clear c61
                                            have c62b0 := eq_true (of_decide_eq_true (by first | (with_reducible assumption) | assumption) : 0 ≤ (ji53))
                                            by_cases c63 : (ji53) ≤ (x5_5.length : Int)
                                            · rw [if_pos c63] at H
                                              have c63b0 := eq_true c63
                                              have c63b1 : decide ((ji53) ≤ (x5_5.length : Int)) = true := decide_eq_true c63
                                              clear c63
                                              obtain ⟨y155, hy155⟩ : ∃ y_ : List Int, y_ = (x5_5.take ((ji53) : Int).toNat) := ⟨_, rfl⟩
                                              replace H : (parlanceref03_field.l3 k5 y155) = some r := by first | (rw [hy155]; with_reducible exact H) | (have H2_ := (Option.bind_some _ _).symm.trans H; rw [hy155]; with_reducible exact H2_) | (have H2_ := (Option.bind_some _ _).symm.trans H; with_reducible exact H2_) | with_reducible exact H | (rw [hy155]; exact H) | exact H
                                              have Ny155 := Aside0.mk hy155
                                              clear hy155
                                              have H' := Aside0.mk H
                                              clear H
                                              obtain ⟨Ao64, co64, eo64⟩ := Kd.V_slice HO_5.out
                                              subst eo64
                                              have p148 : 0 ≤ ((ji53) : Int) := of_decide_eq_true (by first | (with_reducible assumption) | assumption)
                                              have q148 : (ji53) < (x5_5.length : Int) := of_decide_eq_true (by first | (with_reducible assumption) | assumption)
                                              obtain ⟨ad148, e148, hx148_0⟩ := Kd.at_int (Kd.V_reads' HO_5.out).2.2 (ji53) p148 q148
                                              cases e148
                                              replace p148 := eq_true p148
                                              replace q148 := eq_true q148
                                              have p154 : 0 ≤ ((ji53) : Int) := of_decide_eq_true (by first | (with_reducible assumption) | assumption)
                                              have q154 : (ji53) < (x5_5.length : Int) := of_decide_eq_true (by first | (with_reducible assumption) | assumption)
                                              obtain ⟨ad154, e154, hx154_0⟩ := Kd.at_int (Kd.V_reads' HO_5.out).2.2 (ji53) p154 q154
                                              obtain rfl : ad148 = ad154 := (by injection e154)
                                              replace p154 := eq_true p154
                                              replace q154 := eq_true q154
                                              have q65 : ((ji53) : Int) ≤ ((x5_5.length : Int) : Int) := of_decide_eq_true (by first | (with_reducible assumption) | assumption)
                                              obtain ⟨i065, hi065, _, hsz65, _⟩ := info_parts info5
                                              have hroom65 : x5_5.length ≤ co64 := (Kd.V_reads' HO_5.out).2.1
                                              have hC65 : Kd.F (Kd.int .u8) _ _ (some ad148) x5_5.length x5_5 := (Kd.V_at (base := w.heap.size) HO_5.out).2.2
                                              have hcut65 := cut_to (P := Tryz.prog) 27 5 .i64 Tryz.underlying27 hi065 (some ad148) x5_5.length co64 (ji53) (of_decide_eq_true (by first | (with_reducible assumption) | assumption)) q65 hroom65
                                              have hr65 := Kd.F_take (m := ((ji53) : Int).toNat) hC65 (by omega)
                                              have hy65 : y155.length = ((ji53) : Int).toNat := (by rw [Ny155.out, List.length_take]; omega)
                                              rw [← Ny155.out] at hr65
                                              rw [← hy65] at hcut65
                                              have HO159 := Aside0.mk (show Kd.V (Kd.int .u8) 5 _ w.heap.size _ (.slice (some ad148) y155.length co64) y155 from Kd.V_mk (by omega) hr65)
                                              have HC159 := Aside0.mk (show y155.length ≤ co64 from by omega)
                                              clear hr65 hC65 hroom65 hi065 hsz65
                                              have KY65 := Aside0.mk hy65
                                              clear hy65
                                              replace q65 := eq_true q65
                                              go_wp2
                                              go_roundg k5
                                              case measure => have := HJ1.out; have := HJ21.out; have := HK3.out; have := HJ36.out; have := HK5.out; omega
                                              case rel => exact ⟨(y155), H', ⟨by have := HJ1.out; have := HJ21.out; have := HK3.out; have := HJ36.out; have := HK5.out; omega⟩, ⟨by (with_reducible repeat (first | apply Kd.V_alloc | apply Kd.V_drewN | apply Kd.V_drew)); exact HO159.out⟩, ⟨by repeat (first | (with_reducible first | exact HB.out | apply below_alloc | apply pw_below_drewN | apply below_drew1) | exact HB.out)⟩⟩
                                            · rw [if_neg c63] at H
                                              exact absurd H (by simp)
                                          · rw [if_neg c61] at H
                                            have c61b0 : ((rd x5_5 (ji53)) == 9) = false := beq_eq_false_iff_ne.mpr c61
                                            have c61b1 : ((rd x5_5 (ji53)) != 9) = true := bne_iff_ne.mpr c61
                                            have H' := Aside0.mk H
                                            clear H
                                            obtain ⟨Ao66, co66, eo66⟩ := Kd.V_slice HO_5.out
                                            subst eo66
                                            have p148 : 0 ≤ ((ji53) : Int) := of_decide_eq_true (by first | (with_reducible assumption) | assumption)
                                            have q148 : (ji53) < (x5_5.length : Int) := of_decide_eq_true (by first | (with_reducible assumption) | assumption)
                                            obtain ⟨ad148, e148, hx148_0⟩ := Kd.at_int (Kd.V_reads' HO_5.out).2.2 (ji53) p148 q148
                                            cases e148
                                            replace p148 := eq_true p148
                                            replace q148 := eq_true q148
                                            have p154 : 0 ≤ ((ji53) : Int) := of_decide_eq_true (by first | (with_reducible assumption) | assumption)
                                            have q154 : (ji53) < (x5_5.length : Int) := of_decide_eq_true (by first | (with_reducible assumption) | assumption)
                                            obtain ⟨ad154, e154, hx154_0⟩ := Kd.at_int (Kd.V_reads' HO_5.out).2.2 (ji53) p154 q154
                                            obtain rfl : ad148 = ad154 := (by injection e154)
                                            replace p154 := eq_true p154
                                            replace q154 := eq_true q154
                                            go_wp2
                                            go_meet
                                            case rel => exact ⟨_, (x5_5), H', ⟨by have := HJ1.out; have := HJ21.out; have := HK3.out; have := HJ36.out; have := HK5.out; first | omega | exact Nat.le_refl _⟩, ⟨by (with_reducible repeat (first | apply Kd.V_alloc | apply Kd.V_drewN | apply Kd.V_drew)); exact HO_5.out⟩, ⟨by repeat (first | (with_reducible first | exact HB.out | apply below_alloc | apply pw_below_drewN | apply below_drew1) | exact HB.out)⟩⟩
                                      · rw [if_neg c55] at H
                                        exact absurd H (by simp)
                                    · rw [if_neg c54] at H
                                      exact absurd H (by simp)
                                  · rw [if_neg c52] at H
                                    have c52b0 : decide (0 < (x5_5.length : Int)) = false := decide_eq_false c52
                                    have c52b1 : decide (0 < x5_5.length) = false := decide_eq_false (by omega)
                                    clear c52
                                    (first | rw [c52b0] | (simp only [i64_w, i32_w]; rw [c52b0]) | skip)
                                    have H' := Aside0.mk H
                                    clear H
                                    obtain ⟨Ao67, co67, eo67⟩ := Kd.V_slice HO_5.out
                                    subst eo67
                                    go_wp2
                                    go_meet
                                    case rel => exact ⟨_, (x5_5), H', ⟨by have := HJ1.out; have := HJ21.out; have := HK3.out; have := HJ36.out; have := HK5.out; first | omega | exact Nat.le_refl _⟩, ⟨by (with_reducible repeat (first | apply Kd.V_alloc | apply Kd.V_drewN | apply Kd.V_drew)); exact HO_5.out⟩, ⟨by repeat (first | (with_reducible first | exact HB.out | apply below_alloc | apply pw_below_drewN | apply below_drew1) | exact HB.out)⟩⟩
                            case rest =>
                              clear HC51
                              try clear c1
                              try clear p1
                              try clear q1
                              try clear hx1
                              try clear qi1
                              try clear c2
                              try clear p2
                              try clear c3
                              try clear q3
                              try clear hcv3
                              try clear c4
                              try clear q4
                              try clear c5
                              try clear c5b0
                              try clear c6
                              try clear c6b0
                              try clear p6
                              try clear q6
                              try clear c8
                              try clear c8b0
                              try clear c10
                              try clear c10b0
                              try clear p10
                              try clear q10
                              try clear hx10
                              try clear p11
                              try clear q11
                              try clear hx11
                              try clear c12
                              try clear p12
                              try clear q12
                              try clear hx12
                              try clear p13
                              try clear q13
                              try clear hx13
                              try clear qi13
                              try clear c14
                              try clear c14b0
                              try clear c14b1
                              try clear p14
                              try clear q14
                              try clear hx14
                              try clear qi14
                              try clear p15
                              try clear q15
                              try clear hx15
                              try clear c16
                              try clear c18
                              try clear c18b0
                              try clear c18b1
                              try clear c20
                              try clear c23
                              try clear c23b0
                              try clear c23b1
                              try clear c24
                              try clear c24b0
                              try clear c24b1
                              try clear c25
                              try clear c25b0
                              try clear c26
                              try clear c26b0
                              try clear c27
                              try clear c29
                              try clear c29b0
                              try clear c29b1
                              try clear c30
                              try clear c30b0
                              try clear c30b1
                              try clear c31
                              try clear q31
                              try clear c32
                              try clear c32b0
                              try clear c33
                              try clear c33b0
                              try clear c34
                              try clear c34b0
                              try clear c34b1
                              try clear c35
                              try clear c35b0
                              try clear c35b1
                              try clear c36
                              try clear c36b0
                              try clear c36b1
                              try clear hcv38
                              try clear c39
                              try clear c39b0
                              try clear c39b1
                              try clear c40
                              try clear c40b0
                              try clear c40b1
                              try clear c41
                              try clear c41b0
                              try clear c41b1
                              try clear c42
                              try clear c42b0
                              try clear c42b1
                              try clear c44
                              try clear q44
                              try clear c45
                              try clear c45b0
                              try clear c45b1
                              try clear c46
                              try clear c46b0
                              try clear c46b1
                              try clear c48
                              try clear q48
                              try clear c52
                              try clear c52b0
                              try clear c52b1
                              try clear c54
                              try clear c54b0
                              try clear c55
                              try clear c55b0
                              try clear c56
                              try clear c56b0
                              try clear c56b1
                              try clear c57
                              try clear c57b0
                              try clear c58
                              try clear c58b0
                              try clear c58b1
                              try clear q60
                              try clear c61
                              try clear c61b0
                              try clear c61b1
                              try clear c62
                              try clear c62b0
                              try clear c63
                              try clear c63b0
                              try clear c63b1
                              try clear p64
                              try clear q65
                              try clear hx107_0
                              try clear hx109_0
                              try clear hx111_0
                              try clear hx116_0
                              try clear hx117_0
                              try clear hx122_0
                              try clear hx123_0
                              try clear hx128_0
                              try clear hx134_0
                              try clear hx135_0
                              try clear hx136_0
                              try clear hx142_0
                              try clear hx148_0
                              try clear hx154_0
                              try clear p1
                              try clear p10
                              try clear p107
                              try clear p109
                              try clear p11
                              try clear p111
                              try clear p116
                              try clear p117
                              try clear p12
                              try clear p122
                              try clear p123
                              try clear p128
                              try clear p13
                              try clear p134
                              try clear p135
                              try clear p136
                              try clear p14
                              try clear p142
                              try clear p148
                              try clear p154
                              try clear p2
                              try clear p6
                              try clear q031
                              try clear q1
                              try clear q10
                              try clear q107
                              try clear q109
                              try clear q11
                              try clear q111
                              try clear q116
                              try clear q117
                              try clear q12
                              try clear q122
                              try clear q123
                              try clear q128
                              try clear q13
                              try clear q134
                              try clear q135
                              try clear q136
                              try clear q14
                              try clear q142
                              try clear q148
                              try clear q154
                              try clear q3
                              try clear q31
                              try clear q4
                              try clear q44
                              try clear q48
                              try clear q60
                              try clear q65
                              obtain ⟨kq, x5_50, HA, HJ50, HO_5, HB⟩ := hcut
                              cases kq with
                              | zero => exact absurd HA.out (by simp [parlanceref03_field.j7])
                              | succ kj50 =>
                                have H := HA.out
                                clear HA
                                simp only [parlanceref03_field.j7] at H
                                have HC68 := Aside0.mk H
                                clear H
                                go_upto_region 20 with (fail)
                                go_cut [137] (fun v137 wc => ∃ (kq : Nat) (x137_67 : Bool), v137 = .bool x137_67 ∧ Aside0 (parlanceref03_field.j8 kq x5_50 x137_67 = some r) ∧ Aside0 (kq ≤ kj50) ∧ Aside0 (Kd.V (Kd.int .u8) 5 wc w.heap.size (fun k_ => (P0_ k_ ∨ w.heap.size ≤ k_)) u5 x5_50) ∧ Aside0 (Below w.heap.size w wc))
                                case first =>
                                  have H := HC68.out
                                  clear HC68
                                  by_cases c69 : (x5_50.length : Int) < 1
                                  · rw [if_pos c69] at H
                                    have c69b0 : decide ((x5_50.length : Int) < 1) = true := decide_eq_true c69
                                    have c69b1 : decide (x5_50.length < 1) = true := decide_eq_true (by omega)
                                    clear c69
                                    (first | rw [c69b0] | (simp only [i64_w, i32_w]; rw [c69b0]) | skip)
                                    have H' := Aside0.mk H
                                    clear H
                                    obtain ⟨Ao70, co70, eo70⟩ := Kd.V_slice HO_5.out
                                    subst eo70
                                    go_wp2
                                    go_meet
                                    case rel => exact ⟨_, (true), (by first | rfl | (simp; done) | (simp [*]; done)), H', ⟨by have := HJ1.out; have := HJ21.out; have := HK3.out; have := HJ36.out; have := HJ50.out; first | omega | exact Nat.le_refl _⟩, ⟨by (with_reducible repeat (first | apply Kd.V_alloc | apply Kd.V_drewN | apply Kd.V_drew)); exact HO_5.out⟩, ⟨by repeat (first | (with_reducible first | exact HB.out | apply below_alloc | apply pw_below_drewN | apply below_drew1) | exact HB.out)⟩⟩
                                  · rw [if_neg c69] at H
                                    have c69b0 : decide ((x5_50.length : Int) < 1) = false := decide_eq_false c69
                                    have c69b1 : decide (x5_50.length < 1) = false := decide_eq_false (by omega)
                                    clear c69
                                    (first | rw [c69b0] | (simp only [i64_w, i32_w]; rw [c69b0]) | skip)
                                    have H' := Aside0.mk H
                                    clear H
                                    obtain ⟨Ao71, co71, eo71⟩ := Kd.V_slice HO_5.out
                                    subst eo71
                                    go_wp2
                                    go_meet
                                    case rel => exact ⟨_, (decide ((x5_50.length : Int) > 6)), (by first | rfl | (simp; done) | (simp [*]; done)), H', ⟨by have := HJ1.out; have := HJ21.out; have := HK3.out; have := HJ36.out; have := HJ50.out; first | omega | exact Nat.le_refl _⟩, ⟨by (with_reducible repeat (first | apply Kd.V_alloc | apply Kd.V_drewN | apply Kd.V_drew)); exact HO_5.out⟩, ⟨by repeat (first | (with_reducible first | exact HB.out | apply below_alloc | apply pw_below_drewN | apply below_drew1) | exact HB.out)⟩⟩
                                case rest =>
                                  clear HC68
                                  try clear c1
                                  try clear p1
                                  try clear q1
                                  try clear hx1
                                  try clear qi1
                                  try clear c2
                                  try clear p2
                                  try clear c3
                                  try clear q3
                                  try clear hcv3
                                  try clear c4
                                  try clear q4
                                  try clear c5
                                  try clear c5b0
                                  try clear c6
                                  try clear c6b0
                                  try clear p6
                                  try clear q6
                                  try clear c8
                                  try clear c8b0
                                  try clear c10
                                  try clear c10b0
                                  try clear p10
                                  try clear q10
                                  try clear hx10
                                  try clear p11
                                  try clear q11
                                  try clear hx11
                                  try clear c12
                                  try clear p12
                                  try clear q12
                                  try clear hx12
                                  try clear p13
                                  try clear q13
                                  try clear hx13
                                  try clear qi13
                                  try clear c14
                                  try clear c14b0
                                  try clear c14b1
                                  try clear p14
                                  try clear q14
                                  try clear hx14
                                  try clear qi14
                                  try clear p15
                                  try clear q15
                                  try clear hx15
                                  try clear c16
                                  try clear c18
                                  try clear c18b0
                                  try clear c18b1
                                  try clear c20
                                  try clear c23
                                  try clear c23b0
                                  try clear c23b1
                                  try clear c24
                                  try clear c24b0
                                  try clear c24b1
                                  try clear c25
                                  try clear c25b0
                                  try clear c26
                                  try clear c26b0
                                  try clear c27
                                  try clear c29
                                  try clear c29b0
                                  try clear c29b1
                                  try clear c30
                                  try clear c30b0
                                  try clear c30b1
                                  try clear c31
                                  try clear q31
                                  try clear c32
                                  try clear c32b0
                                  try clear c33
                                  try clear c33b0
                                  try clear c34
                                  try clear c34b0
                                  try clear c34b1
                                  try clear c35
                                  try clear c35b0
                                  try clear c35b1
                                  try clear c36
                                  try clear c36b0
                                  try clear c36b1
                                  try clear hcv38
                                  try clear c39
                                  try clear c39b0
                                  try clear c39b1
                                  try clear c40
                                  try clear c40b0
                                  try clear c40b1
                                  try clear c41
                                  try clear c41b0
                                  try clear c41b1
                                  try clear c42
                                  try clear c42b0
                                  try clear c42b1
                                  try clear c44
                                  try clear q44
                                  try clear c45
                                  try clear c45b0
                                  try clear c45b1
                                  try clear c46
                                  try clear c46b0
                                  try clear c46b1
                                  try clear c48
                                  try clear q48
                                  try clear c52
                                  try clear c52b0
                                  try clear c52b1
                                  try clear c54
                                  try clear c54b0
                                  try clear c55
                                  try clear c55b0
                                  try clear c56
                                  try clear c56b0
                                  try clear c56b1
                                  try clear c57
                                  try clear c57b0
                                  try clear c58
                                  try clear c58b0
                                  try clear c58b1
                                  try clear q60
                                  try clear c61
                                  try clear c61b0
                                  try clear c61b1
                                  try clear c62
                                  try clear c62b0
                                  try clear c63
                                  try clear c63b0
                                  try clear c63b1
                                  try clear p64
                                  try clear q65
                                  try clear c69
                                  try clear c69b0
                                  try clear c69b1
                                  try clear hx107_0
                                  try clear hx109_0
                                  try clear hx111_0
                                  try clear hx116_0
                                  try clear hx117_0
                                  try clear hx122_0
                                  try clear hx123_0
                                  try clear hx128_0
                                  try clear hx134_0
                                  try clear hx135_0
                                  try clear hx136_0
                                  try clear hx142_0
                                  try clear hx148_0
                                  try clear hx154_0
                                  try clear p1
                                  try clear p10
                                  try clear p107
                                  try clear p109
                                  try clear p11
                                  try clear p111
                                  try clear p116
                                  try clear p117
                                  try clear p12
                                  try clear p122
                                  try clear p123
                                  try clear p128
                                  try clear p13
                                  try clear p134
                                  try clear p135
                                  try clear p136
                                  try clear p14
                                  try clear p142
                                  try clear p148
                                  try clear p15
                                  try clear p154
                                  try clear p2
                                  try clear p6
                                  try clear p64
                                  try clear q031
                                  try clear q1
                                  try clear q10
                                  try clear q107
                                  try clear q109
                                  try clear q11
                                  try clear q111
                                  try clear q116
                                  try clear q117
                                  try clear q12
                                  try clear q122
                                  try clear q123
                                  try clear q128
                                  try clear q13
                                  try clear q134
                                  try clear q135
                                  try clear q136
                                  try clear q14
                                  try clear q142
                                  try clear q148
                                  try clear q15
                                  try clear q154
                                  try clear q3
                                  try clear q31
                                  try clear q4
                                  try clear q44
                                  try clear q48
                                  try clear q6
                                  try clear q60
                                  try clear q65
                                  obtain ⟨kq, x137_67, rfl, HA, HJ67, HO_5, HB⟩ := hcut
                                  cases kq with
                                  | zero => exact absurd HA.out (by simp [parlanceref03_field.j8])
                                  | succ kj67 =>
                                    have H := HA.out
                                    clear HA
                                    simp only [parlanceref03_field.j8] at H
                                    by_cases c72 : x137_67 = true
                                    · subst c72
                                      have H1 : (some (-2)) = some r := by rw [if_pos rfl] at H; exact H
                                      clear H
                                      have H := H1
                                      clear H1
                                      obtain rfl := Option.some.inj H
                                      go_wp2
                                      go_ret
                                      exact ⟨by first | rfl | (simp [errW_none, errW_some] <;> rfl) | (simp only [← hji28]; first | rfl | (simp [errW_none, errW_some] <;> rfl)) | (simp [*, errW_none, errW_some] <;> rfl), by repeat (first | (with_reducible first | exact HB.out | apply below_alloc | apply pw_below_drewN | apply below_drew1) | exact HB.out)⟩
                                    · replace c72 := Bool.eq_false_iff.mpr c72
                                      subst c72
                                      have H1 : (parlanceref03_field.l4 kj67 x5_50 0 0) = some r := by rw [if_neg (show ¬ (false = true) by decide)] at H; exact H
                                      clear H
                                      have H := H1
                                      clear H1
                                      have H' := Aside0.mk H
                                      clear H
                                      go_wp2
                                      go_loopg [7, 8] kj67 (fun kq v7 v8 w' => ∃ (x7_7 : Int) (x8_7 : Int), v7 = .int .i64 x7_7 ∧ v8 = .int .i64 x8_7 ∧ Aside0 (parlanceref03_field.l4 kq x5_50 x7_7 x8_7 = some r) ∧ Aside0 (kq ≤ kj67) ∧ Aside0 (Kd.V (Kd.int .u8) 5 w' w.heap.size (fun k_ => (P0_ k_ ∨ w.heap.size ≤ k_)) u5 x5_50) ∧ Aside0 (Below w.heap.size w w'))
                                      case atStart => exact ⟨(0), (0), (by first | rfl | (simp; done) | (simp [*]; done)), (by first | rfl | (simp; done) | (simp [*]; done)), H', ⟨Nat.le_refl _⟩, ⟨by (with_reducible repeat (first | apply Kd.V_alloc | apply Kd.V_drewN | apply Kd.V_drew)); exact HO_5.out⟩, ⟨by repeat (first | (with_reducible first | exact HB.out | apply below_alloc | apply pw_below_drewN | apply below_drew1) | exact HB.out)⟩⟩
                                      case round =>
                                        clear H'
                                        try clear c1
                                        try clear p1
                                        try clear q1
                                        try clear hx1
                                        try clear qi1
                                        try clear c2
                                        try clear p2
                                        try clear c3
                                        try clear q3
                                        try clear hcv3
                                        try clear c4
                                        try clear q4
                                        try clear c5
                                        try clear c5b0
                                        try clear c6
                                        try clear c6b0
                                        try clear p6
                                        try clear q6
                                        try clear c7
                                        try clear c8
                                        try clear c8b0
                                        try clear c10
                                        try clear c10b0
                                        try clear p10
                                        try clear q10
                                        try clear hx10
                                        try clear p11
                                        try clear q11
                                        try clear hx11
                                        try clear c12
                                        try clear p12
                                        try clear q12
                                        try clear hx12
                                        try clear p13
                                        try clear q13
                                        try clear hx13
                                        try clear qi13
                                        try clear c14
                                        try clear c14b0
                                        try clear c14b1
                                        try clear p14
                                        try clear q14
                                        try clear hx14
                                        try clear qi14
                                        try clear p15
                                        try clear q15
                                        try clear hx15
                                        try clear c16
                                        try clear c18
                                        try clear c18b0
                                        try clear c18b1
                                        try clear c20
                                        try clear c23
                                        try clear c23b0
                                        try clear c23b1
                                        try clear c24
                                        try clear c24b0
                                        try clear c24b1
                                        try clear c25
                                        try clear c25b0
                                        try clear c26
                                        try clear c26b0
                                        try clear c27
                                        try clear c29
                                        try clear c29b0
                                        try clear c29b1
                                        try clear c30
                                        try clear c30b0
                                        try clear c30b1
                                        try clear c31
                                        try clear q31
                                        try clear c32
                                        try clear c32b0
                                        try clear c33
                                        try clear c33b0
                                        try clear c34
                                        try clear c34b0
                                        try clear c34b1
                                        try clear c35
                                        try clear c35b0
                                        try clear c35b1
                                        try clear c36
                                        try clear c36b0
                                        try clear c36b1
                                        try clear hcv38
                                        try clear c39
                                        try clear c39b0
                                        try clear c39b1
                                        try clear c40
                                        try clear c40b0
                                        try clear c40b1
                                        try clear c41
                                        try clear c41b0
                                        try clear c41b1
                                        try clear c42
                                        try clear c42b0
                                        try clear c42b1
                                        try clear c44
                                        try clear q44
                                        try clear c45
                                        try clear c45b0
                                        try clear c45b1
                                        try clear c46
                                        try clear c46b0
                                        try clear c46b1
                                        try clear c48
                                        try clear q48
                                        try clear c52
                                        try clear c52b0
                                        try clear c52b1
                                        try clear c54
                                        try clear c54b0
                                        try clear c55
                                        try clear c55b0
                                        try clear c56
                                        try clear c56b0
                                        try clear c56b1
                                        try clear c57
                                        try clear c57b0
                                        try clear c58
                                        try clear c58b0
                                        try clear c58b1
                                        try clear q60
                                        try clear c61
                                        try clear c61b0
                                        try clear c61b1
                                        try clear c62
                                        try clear c62b0
                                        try clear c63
                                        try clear c63b0
                                        try clear c63b1
                                        try clear p64
                                        try clear q65
                                        try clear c69
                                        try clear c69b0
                                        try clear c69b1
                                        try clear c72
                                        try clear hx107_0
                                        try clear hx109_0
                                        try clear hx111_0
                                        try clear hx116_0
                                        try clear hx117_0
                                        try clear hx122_0
                                        try clear hx123_0
                                        try clear hx128_0
                                        try clear hx134_0
                                        try clear hx135_0
                                        try clear hx136_0
                                        try clear hx142_0
                                        try clear hx148_0
                                        try clear hx154_0
                                        try clear p1
                                        try clear p10
                                        try clear p107
                                        try clear p109
                                        try clear p11
                                        try clear p111
                                        try clear p116
                                        try clear p117
                                        try clear p12
                                        try clear p122
                                        try clear p123
                                        try clear p128
                                        try clear p13
                                        try clear p134
                                        try clear p135
                                        try clear p136
                                        try clear p14
                                        try clear p142
                                        try clear p148
                                        try clear p15
                                        try clear p154
                                        try clear p2
                                        try clear p6
                                        try clear p64
                                        try clear q031
                                        try clear q1
                                        try clear q10
                                        try clear q107
                                        try clear q109
                                        try clear q11
                                        try clear q111
                                        try clear q116
                                        try clear q117
                                        try clear q12
                                        try clear q122
                                        try clear q123
                                        try clear q128
                                        try clear q13
                                        try clear q134
                                        try clear q135
                                        try clear q136
                                        try clear q14
                                        try clear q142
                                        try clear q148
                                        try clear q15
                                        try clear q154
                                        try clear q3
                                        try clear q31
                                        try clear q4
                                        try clear q44
                                        try clear q48
                                        try clear q6
                                        try clear q60
                                        try clear q65
                                        obtain ⟨x7_7, x8_7, rfl, rfl, HA, HK7, HO_5, HB⟩ := hrel
                                        cases gk with
                                        | zero => exact absurd HA.out (by simp [parlanceref03_field.l4])
                                        | succ k7 =>
                                          have H := HA.out
                                          clear HA
                                          simp only [parlanceref03_field.l4] at H
                                          by_cases c73 : x8_7 < (x5_50.length : Int)
                                          · rw [if_pos c73] at H
                                            have c73b0 : decide (x8_7 < (x5_50.length : Int)) = true := decide_eq_true c73
                                            clear c73
                                            by_cases c74 : 0 ≤ x8_7
                                            · rw [if_pos c74] at H
                                              have c74b0 : decide (0 ≤ x8_7) = true := decide_eq_true c74
                                              clear c74
                                              by_cases c75 : (rd x5_50 x8_7) < 48
                                              · rw [if_pos c75] at H
                                                have c75b0 : decide ((rd x5_50 x8_7) < 48) = true := decide_eq_true c75
                                                clear c75
                                                obtain rfl := Option.some.inj H
                                                obtain ⟨Ao76, co76, eo76⟩ := Kd.V_slice HO_5.out
                                                subst eo76
                                                have p160 : 0 ≤ (x8_7 : Int) := of_decide_eq_true (by first | (with_reducible assumption) | assumption)
                                                have q160 : x8_7 < (x5_50.length : Int) := of_decide_eq_true (by first | (with_reducible assumption) | assumption)
                                                obtain ⟨ad160, e160, hx160_0⟩ := Kd.at_int (Kd.V_reads' HO_5.out).2.2 x8_7 p160 q160
                                                cases e160
                                                replace p160 := eq_true p160
                                                replace q160 := eq_true q160
                                                go_wp2
                                                go_ret
                                                exact ⟨by first | rfl | (simp [errW_none, errW_some] <;> rfl) | (simp only [← hji28]; first | rfl | (simp [errW_none, errW_some] <;> rfl)) | (simp [*, errW_none, errW_some] <;> rfl), by repeat (first | (with_reducible first | exact HB.out | apply below_alloc | apply pw_below_drewN | apply below_drew1) | exact HB.out)⟩
                                              · rw [if_neg c75] at H
                                                have c75b0 : decide ((rd x5_50 x8_7) < 48) = false := decide_eq_false c75
                                                clear c75
                                                by_cases c77 : (rd x5_50 x8_7) > 57
                                                · rw [if_pos c77] at H
                                                  have c77b0 : decide (57 < (rd x5_50 x8_7)) = true := decide_eq_true c77
                                                  clear c77
                                                  obtain rfl := Option.some.inj H
                                                  obtain ⟨Ao78, co78, eo78⟩ := Kd.V_slice HO_5.out
                                                  subst eo78
                                                  have p160 : 0 ≤ (x8_7 : Int) := of_decide_eq_true (by first | (with_reducible assumption) | assumption)
                                                  have q160 : x8_7 < (x5_50.length : Int) := of_decide_eq_true (by first | (with_reducible assumption) | assumption)
                                                  obtain ⟨ad160, e160, hx160_0⟩ := Kd.at_int (Kd.V_reads' HO_5.out).2.2 x8_7 p160 q160
                                                  cases e160
                                                  replace p160 := eq_true p160
                                                  replace q160 := eq_true q160
                                                  have p161 : 0 ≤ (x8_7 : Int) := of_decide_eq_true (by first | (with_reducible assumption) | assumption)
                                                  have q161 : x8_7 < (x5_50.length : Int) := of_decide_eq_true (by first | (with_reducible assumption) | assumption)
                                                  obtain ⟨ad161, e161, hx161_0⟩ := Kd.at_int (Kd.V_reads' HO_5.out).2.2 x8_7 p161 q161
                                                  obtain rfl : ad160 = ad161 := (by injection e161)
                                                  replace p161 := eq_true p161
                                                  replace q161 := eq_true q161
                                                  go_wp2
                                                  go_ret
                                                  exact ⟨by first | rfl | (simp [errW_none, errW_some] <;> rfl) | (simp only [← hji28]; first | rfl | (simp [errW_none, errW_some] <;> rfl)) | (simp [*, errW_none, errW_some] <;> rfl), by repeat (first | (with_reducible first | exact HB.out | apply below_alloc | apply pw_below_drewN | apply below_drew1) | exact HB.out)⟩
                                                · rw [if_neg c77] at H
                                                  have c77b0 : decide (57 < (rd x5_50 x8_7)) = false := decide_eq_false c77
                                                  clear c77
                                                  have H' := Aside0.mk H
                                                  clear H
                                                  obtain ⟨Ao79, co79, eo79⟩ := Kd.V_slice HO_5.out
                                                  subst eo79
                                                  have p160 : 0 ≤ (x8_7 : Int) := of_decide_eq_true (by first | (with_reducible assumption) | assumption)
                                                  have q160 : x8_7 < (x5_50.length : Int) := of_decide_eq_true (by first | (with_reducible assumption) | assumption)
                                                  obtain ⟨ad160, e160, hx160_0⟩ := Kd.at_int (Kd.V_reads' HO_5.out).2.2 x8_7 p160 q160
                                                  cases e160
                                                  replace p160 := eq_true p160
                                                  replace q160 := eq_true q160
                                                  have p161 : 0 ≤ (x8_7 : Int) := of_decide_eq_true (by first | (with_reducible assumption) | assumption)
                                                  have q161 : x8_7 < (x5_50.length : Int) := of_decide_eq_true (by first | (with_reducible assumption) | assumption)
                                                  obtain ⟨ad161, e161, hx161_0⟩ := Kd.at_int (Kd.V_reads' HO_5.out).2.2 x8_7 p161 q161
                                                  obtain rfl : ad160 = ad161 := (by injection e161)
                                                  replace p161 := eq_true p161
                                                  replace q161 := eq_true q161
                                                  have p162 : 0 ≤ (x8_7 : Int) := of_decide_eq_true (by first | (with_reducible assumption) | assumption)
                                                  have q162 : x8_7 < (x5_50.length : Int) := of_decide_eq_true (by first | (with_reducible assumption) | assumption)
                                                  obtain ⟨ad162, e162, hx162_0⟩ := Kd.at_int (Kd.V_reads' HO_5.out).2.2 x8_7 p162 q162
                                                  obtain rfl : ad160 = ad162 := (by injection e162)
                                                  replace p162 := eq_true p162
                                                  replace q162 := eq_true q162
                                                  go_wp2
                                                  go_roundg k7
                                                  case measure => have := HJ1.out; have := HJ21.out; have := HK3.out; have := HJ36.out; have := HJ50.out; have := HJ67.out; have := HK7.out; omega
                                                  case rel => exact ⟨(wrap64 ((wrap64 ((wrap64 (x7_7 * 10)) + (wrap64 (rd x5_50 x8_7)))) - 48)), (wrap64 (x8_7 + 1)), (by first | rfl | (simp; done) | (simp [*]; done)), (by first | rfl | (simp; done) | (simp [*]; done)), H', ⟨by have := HJ1.out; have := HJ21.out; have := HK3.out; have := HJ36.out; have := HJ50.out; have := HJ67.out; have := HK7.out; omega⟩, ⟨by (with_reducible repeat (first | apply Kd.V_alloc | apply Kd.V_drewN | apply Kd.V_drew)); exact HO_5.out⟩, ⟨by repeat (first | (with_reducible first | exact HB.out | apply below_alloc | apply pw_below_drewN | apply below_drew1) | exact HB.out)⟩⟩
                                            · rw [if_neg c74] at H
                                              exact absurd H (by simp)
                                          · rw [if_neg c73] at H
                                            have c73b0 : decide (x8_7 < (x5_50.length : Int)) = false := decide_eq_false c73
                                            clear c73
                                            obtain rfl := Option.some.inj H
                                            obtain ⟨Ao80, co80, eo80⟩ := Kd.V_slice HO_5.out
                                            subst eo80
                                            go_wp2
                                            go_ret
                                            exact ⟨by first | rfl | (simp [errW_none, errW_some] <;> rfl) | (simp only [← hji28]; first | rfl | (simp [errW_none, errW_some] <;> rfl)) | (simp [*, errW_none, errW_some] <;> rfl), by repeat (first | (with_reducible first | exact HB.out | apply below_alloc | apply pw_below_drewN | apply below_drew1) | exact HB.out)⟩
                      · rw [if_neg c36] at H
                        have c36b0 : ((strOfNums x4_1).toList == ([99, 111, 110, 116, 101, 110, 116, 45, 108, 101, 110, 103, 116, 104] : List UInt8)) = false := beq_eq_false_iff_ne.mpr c36
                        have c36b1 : ((strOfNums x4_1).toList != ([99, 111, 110, 116, 101, 110, 116, 45, 108, 101, 110, 103, 116, 104] : List UInt8)) = true := bne_iff_ne.mpr c36
                        obtain rfl := Option.some.inj H
                        have hcv81 := own_string (P := Tryz.prog) Tryz.underlying27 Tryz.underlying5 Tryz.underlying9 (Kd.own_of_R HO_4.out)
                        go_wp2
                        go_ret
                        exact ⟨by first | rfl | (simp [errW_none, errW_some] <;> rfl) | (simp only [← hji28]; first | rfl | (simp [errW_none, errW_some] <;> rfl)) | (simp [*, errW_none, errW_some] <;> rfl), by repeat (first | (with_reducible first | exact HB.out | apply below_alloc | apply pw_below_drewN | apply below_drew1) | exact HB.out)⟩
              · rw [if_neg c30] at H
                exact absurd H (by simp)
            · rw [if_neg c29] at H
              exact absurd H (by simp)

-- NOT PRINTED: function 19 (parlanceref03_length)

end Go.Proofs.YtomebmjjgkcjiaaGreatDoor.PRf
