-- Printed by a program of this session (wip/printx.py) out of the translation. Not trusted: Lean checks it.
import Derived.Test.YtflfkbnolehpgaaDoorPUtfx0
import Derived.Test.YtflfkbnolehpgaaDoorPUtfx1
import Derived.Test.YtflfkbnolehpgaaDoorPUtfx2
namespace Go.Proofs.YtflfkbnolehpgaaDoor.PUtf
open Go.RowKit Go.Proofs.YtflfkbnolehpgaaDoor.G Go.Proofs.YtflfkbnolehpgaaDoor.PUA Go.Proofs.YtflfkbnolehpgaaDoorW.PrintWords Go.Proofs.YtflfkbnolehpgaaDoorW.PrintLast Go.Proofs.YtflfkbnolehpgaaDoorW.PrintMore
attribute [local go_sem] max2_int min2_int max_two min_two max_three min_three max_four min_four   -- for this text's walks alone
set_option linter.unusedVariables false
set_option linter.unusedSimpArgs false

/-! ### parlancelaw04_UtfTexts: function 3 -/
mutual
def parlancelaw04_UtfTexts.j0 : Nat → List Int → Bool → Option (Bool)
  | 0, _, _ => none
  | k + 1, x0, x30 => if x30 = true then (some false) else ((GRunes.f (strOfNums x0)).bind fun bt195 => ((GRefRunes.f (strOfNums x0)).bind fun bt199 => ((parlanceref00_SameInts.f k bt195.1 bt199.1).bind fun t203 => (if t203 = true then (parlancelaw04_UtfTexts.j1 k (strOfNums x0) (bt195.2 != bt199.2)) else (parlancelaw04_UtfTexts.j1 k (strOfNums x0) true)))))
def parlancelaw04_UtfTexts.j1 : Nat → ByteArray → Bool → Option (Bool)
  | 0, _, _ => none
  | k + 1, x4, x51 => if x51 = true then (some false) else ((utf_Units.f k x4).bind fun bt204 => ((parlanceref04_Units.f k x4).bind fun bt208 => ((parlanceref00_SameInts.f k bt204.1 bt208.1).bind fun t212 => (if t212 = true then (some (bt204.2 == bt208.2)) else (some false)))))
end
def parlancelaw04_UtfTexts.f (k : Nat) (l0 : List Int) : Option (Bool) := (parlancelaw04_alive.f k).bind fun t181 => (if t181 = true then (if (l0.length : Int) > 20000 then (some true) else ((parlanceref00_Spare.f k l0).bind fun t182 => (if 0 ≤ (l0.length : Int) then (if (l0.length : Int) ≤ (t182.length : Int) then ((utf_Valid.f k (t182.take ((l0.length : Int) : Int).toNat)).bind fun t189 => ((parlanceref04_Valid.f k l0).bind fun t190 => (if t189 = t190 then ((parlanceref00_Spare.f k l0).bind fun t191 => ((parlanceref00_SameBytes.f k t182 t191).bind fun t194 => (parlancelaw04_UtfTexts.j0 k l0 (!t194)))) else (parlancelaw04_UtfTexts.j0 k l0 true)))) else (none)) else (none)))) else (some false))
theorem parlancelaw04_UtfTexts.mono_l : ∀ k, (∀ y0 y1, LeO (parlancelaw04_UtfTexts.j0 k y0 y1) (parlancelaw04_UtfTexts.j0 (k + 1) y0 y1)) ∧ (∀ y0 y1, LeO (parlancelaw04_UtfTexts.j1 k y0 y1) (parlancelaw04_UtfTexts.j1 (k + 1) y0 y1))
  | 0 => ⟨fun _ _ r h => by simp [parlancelaw04_UtfTexts.j0] at h, fun _ _ r h => by simp [parlancelaw04_UtfTexts.j1] at h⟩
  | k + 1 => by
    obtain ⟨ih0, ih1⟩ := parlancelaw04_UtfTexts.mono_l k
    refine ⟨?_, ?_⟩
    · intro y0 y1
      unfold parlancelaw04_UtfTexts.j0
      repeat' first
      | (with_reducible exact ih0 _ _)
      | (with_reducible exact ih1 _ _)
      | (with_reducible exact parlancelaw04_alive.mono _)
      | (with_reducible exact parlanceref00_SameBytes.mono _ _ _)
      | (with_reducible exact parlanceref00_SameInts.mono _ _ _)
      | (with_reducible exact parlanceref00_Spare.mono _ _)
      | (with_reducible exact parlanceref04_Units.mono _ _)
      | (with_reducible exact parlanceref04_Valid.mono _ _)
      | (with_reducible exact utf_Units.mono _ _)
      | (with_reducible exact utf_Valid.mono _ _)
      | (with_reducible exact LeO.refl _)
      | (with_reducible exact LeO.none _)
      | (with_reducible refine LeO.ite ?_ ?_)
      | (with_reducible refine LeO.bind ?_ (fun _ => ?_))
      | exact ih0 _ _
      | exact ih1 _ _
      | exact parlancelaw04_alive.mono _
      | exact parlanceref00_SameBytes.mono _ _ _
      | exact parlanceref00_SameInts.mono _ _ _
      | exact parlanceref00_Spare.mono _ _
      | exact parlanceref04_Units.mono _ _
      | exact parlanceref04_Valid.mono _ _
      | exact utf_Units.mono _ _
      | exact utf_Valid.mono _ _
      | exact LeO.none _
      | refine LeO.ite ?_ ?_
      | refine LeO.bind ?_ (fun _ => ?_)
    · intro y0 y1
      unfold parlancelaw04_UtfTexts.j1
      repeat' first
      | (with_reducible exact ih0 _ _)
      | (with_reducible exact ih1 _ _)
      | (with_reducible exact parlancelaw04_alive.mono _)
      | (with_reducible exact parlanceref00_SameBytes.mono _ _ _)
      | (with_reducible exact parlanceref00_SameInts.mono _ _ _)
      | (with_reducible exact parlanceref00_Spare.mono _ _)
      | (with_reducible exact parlanceref04_Units.mono _ _)
      | (with_reducible exact parlanceref04_Valid.mono _ _)
      | (with_reducible exact utf_Units.mono _ _)
      | (with_reducible exact utf_Valid.mono _ _)
      | (with_reducible exact LeO.refl _)
      | (with_reducible exact LeO.none _)
      | (with_reducible refine LeO.ite ?_ ?_)
      | (with_reducible refine LeO.bind ?_ (fun _ => ?_))
      | exact ih0 _ _
      | exact ih1 _ _
      | exact parlancelaw04_alive.mono _
      | exact parlanceref00_SameBytes.mono _ _ _
      | exact parlanceref00_SameInts.mono _ _ _
      | exact parlanceref00_Spare.mono _ _
      | exact parlanceref04_Units.mono _ _
      | exact parlanceref04_Valid.mono _ _
      | exact utf_Units.mono _ _
      | exact utf_Valid.mono _ _
      | exact LeO.none _
      | refine LeO.ite ?_ ?_
      | refine LeO.bind ?_ (fun _ => ?_)
theorem parlancelaw04_UtfTexts.mono : ∀ a0 k, LeO (parlancelaw04_UtfTexts.f k a0) (parlancelaw04_UtfTexts.f (k + 1) a0) := by
  intro a0 k
  obtain ⟨ih0, ih1⟩ := parlancelaw04_UtfTexts.mono_l k
  unfold parlancelaw04_UtfTexts.f
  repeat' first
      | (with_reducible exact ih0 _ _)
      | (with_reducible exact ih1 _ _)
      | (with_reducible exact parlancelaw04_alive.mono _)
      | (with_reducible exact parlanceref00_SameBytes.mono _ _ _)
      | (with_reducible exact parlanceref00_SameInts.mono _ _ _)
      | (with_reducible exact parlanceref00_Spare.mono _ _)
      | (with_reducible exact parlanceref04_Units.mono _ _)
      | (with_reducible exact parlanceref04_Valid.mono _ _)
      | (with_reducible exact utf_Units.mono _ _)
      | (with_reducible exact utf_Valid.mono _ _)
      | (with_reducible exact LeO.refl _)
      | (with_reducible exact LeO.none _)
      | (with_reducible refine LeO.ite ?_ ?_)
      | (with_reducible refine LeO.bind ?_ (fun _ => ?_))
      | exact ih0 _ _
      | exact ih1 _ _
      | exact parlancelaw04_alive.mono _
      | exact parlanceref00_SameBytes.mono _ _ _
      | exact parlanceref00_SameInts.mono _ _ _
      | exact parlanceref00_Spare.mono _ _
      | exact parlanceref04_Units.mono _ _
      | exact parlanceref04_Valid.mono _ _
      | exact utf_Units.mono _ _
      | exact utf_Valid.mono _ _
      | exact LeO.none _
      | refine LeO.ite ?_ ?_
      | refine LeO.bind ?_ (fun _ => ?_)
set_option maxHeartbeats 8000000 in
set_option maxRecDepth 100000 in
theorem parlancelaw04_UtfTexts.calls (k : Nat) (A0 : Option Addr) (c0 : Nat) (l0 : List Int) (r : Bool) (w : World) (hr0 : Kd.C (Kd.int .u8) w A0 l0.length l0) (hc0 : l0.length ≤ c0) (hT : T8 w) (h : parlancelaw04_UtfTexts.f k l0 = some r) :
    Calls Tryd.prog 3 #[.slice A0 l0.length c0] w fun e w' => e = .returned (.bool r) ∧ Below w.heap.size w w' := by
  have HR0 := Aside0.mk hr0
  have HC0 := Aside0.mk hc0
  clear hr0 hc0
  have HB := Aside0.mk (Below.refl w.heap.size w)
  have HT := Aside0.mk hT
  clear hT
  have H : ((parlancelaw04_alive.f k).bind fun t181 => (if t181 = true then (if (l0.length : Int) > 20000 then (some true) else ((parlanceref00_Spare.f k l0).bind fun t182 => (if 0 ≤ (l0.length : Int) then (if (l0.length : Int) ≤ (t182.length : Int) then ((utf_Valid.f k (t182.take ((l0.length : Int) : Int).toNat)).bind fun t189 => ((parlanceref04_Valid.f k l0).bind fun t190 => (if t189 = t190 then ((parlanceref00_Spare.f k l0).bind fun t191 => ((parlanceref00_SameBytes.f k t182 t191).bind fun t194 => (parlancelaw04_UtfTexts.j0 k l0 (!t194)))) else (parlancelaw04_UtfTexts.j0 k l0 true)))) else (none)) else (none)))) else (some false))) = some r := h
  clear h
  replace H := Option.bind_eq_some_iff.mp H
  obtain ⟨t181, A20, H⟩ := H
  replace H : (if t181 = true then (if (l0.length : Int) > 20000 then (some true) else ((parlanceref00_Spare.f k l0).bind fun t182 => (if 0 ≤ (l0.length : Int) then (if (l0.length : Int) ≤ (t182.length : Int) then ((utf_Valid.f k (t182.take ((l0.length : Int) : Int).toNat)).bind fun t189 => ((parlanceref04_Valid.f k l0).bind fun t190 => (if t189 = t190 then ((parlanceref00_Spare.f k l0).bind fun t191 => ((parlanceref00_SameBytes.f k t182 t191).bind fun t194 => (parlancelaw04_UtfTexts.j0 k l0 (!t194)))) else (parlancelaw04_UtfTexts.j0 k l0 true)))) else (none)) else (none)))) else (some false)) = some r := H
  have A2 := Aside0.mk A20
  clear A20
  by_cases c3 : t181 = true
  · subst c3
    have H1 : (if (l0.length : Int) > 20000 then (some true) else ((parlanceref00_Spare.f k l0).bind fun t182 => (if 0 ≤ (l0.length : Int) then (if (l0.length : Int) ≤ (t182.length : Int) then ((utf_Valid.f k (t182.take ((l0.length : Int) : Int).toNat)).bind fun t189 => ((parlanceref04_Valid.f k l0).bind fun t190 => (if t189 = t190 then ((parlanceref00_Spare.f k l0).bind fun t191 => ((parlanceref00_SameBytes.f k t182 t191).bind fun t194 => (parlancelaw04_UtfTexts.j0 k l0 (!t194)))) else (parlancelaw04_UtfTexts.j0 k l0 true)))) else (none)) else (none)))) = some r := by rw [if_pos rfl] at H; exact H
    clear H
    have H := H1
    clear H1
    by_cases c4 : (l0.length : Int) > 20000
    · rw [if_pos c4] at H
      have c4b0 : decide (20000 < (l0.length : Int)) = true := decide_eq_true c4
      have c4b1 : decide (20000 < l0.length) = true := decide_eq_true (by omega)
      clear c4
      obtain rfl := Option.some.inj H
      go_enter Tryd.func3, Tryd.ntmps3
      go_wp2_with (first | ((with_reducible refine gate_callee (f := 11) rfl ?_); refine goesL_ (some 9) rfl rfl Tryd.func11 (by kernel_rfl) rfl #[] rfl (by (try simp only [List.map_toArray, List.map_cons, List.map_nil]); first | done | rfl | (simp only [List.length_drop, List.length_take]; rfl)) ?_; (with_reducible refine (parlancelaw04_alive.calls k  true _ ?side1 A2.out).mono ?_); (case side1 => exact T8_below HT.out (by repeat (first | (with_reducible first | exact HB.out | apply below_alloc | apply pw_below_drewN | apply below_drew1) | exact HB.out))); rintro e w5 ⟨rfl, hb⟩; refine ⟨_, rfl, ?_⟩; have n0_ := Aside0.mk (below_step (by repeat (first | (with_reducible first | exact HB.out | apply below_alloc | apply pw_below_drewN | apply below_drew1) | exact HB.out)) hb); clear HB; have HB := n0_; clear n0_; (try clear hb); (try clear hb2); (try clear hk); (try clear hi)))
      go_ret
      exact ⟨by first | rfl | (simp [errW_none, errW_some] <;> rfl) | (simp [*, errW_none, errW_some] <;> rfl), by repeat (first | (with_reducible first | exact HB.out | apply below_alloc | apply pw_below_drewN | apply below_drew1) | exact HB.out)⟩
    · rw [if_neg c4] at H
      have c4b0 : decide (20000 < (l0.length : Int)) = false := decide_eq_false c4
      have c4b1 : decide (20000 < l0.length) = false := decide_eq_false (by omega)
      clear c4
      replace H := Option.bind_eq_some_iff.mp H
      obtain ⟨t182, A60, H⟩ := H
      replace H : (if 0 ≤ (l0.length : Int) then (if (l0.length : Int) ≤ (t182.length : Int) then ((utf_Valid.f k (t182.take ((l0.length : Int) : Int).toNat)).bind fun t189 => ((parlanceref04_Valid.f k l0).bind fun t190 => (if t189 = t190 then ((parlanceref00_Spare.f k l0).bind fun t191 => ((parlanceref00_SameBytes.f k t182 t191).bind fun t194 => (parlancelaw04_UtfTexts.j0 k l0 (!t194)))) else (parlancelaw04_UtfTexts.j0 k l0 true)))) else (none)) else (none)) = some r := H
      have A6 := Aside0.mk A60
      clear A60
      have HC7 := Aside0.mk H
      clear H
      go_enter Tryd.func3, Tryd.ntmps3
      go_upto_region 6 with (first | ((with_reducible refine gate_callee (f := 11) rfl ?_); refine goesL_ (some 9) rfl rfl Tryd.func11 (by kernel_rfl) rfl #[] rfl (by (try simp only [List.map_toArray, List.map_cons, List.map_nil]); first | done | rfl | (simp only [List.length_drop, List.length_take]; rfl)) ?_; (with_reducible refine (parlancelaw04_alive.calls k  true _ ?side1 A2.out).mono ?_); (case side1 => exact T8_below HT.out (by repeat (first | (with_reducible first | exact HB.out | apply below_alloc | apply pw_below_drewN | apply below_drew1) | exact HB.out))); rintro e w8 ⟨rfl, hb⟩; refine ⟨_, rfl, ?_⟩; have n0_ := Aside0.mk (below_step (by repeat (first | (with_reducible first | exact HB.out | apply below_alloc | apply pw_below_drewN | apply below_drew1) | exact HB.out)) hb); clear HB; have HB := n0_; clear n0_; (try clear hb); (try clear hb2); (try clear hk); (try clear hi)) | ((with_reducible refine gate_callee (f := 12) rfl ?_); refine goesL_ (some 15) rfl rfl Tryd.func12 (by kernel_rfl) rfl #[.slice A0 l0.length c0] rfl (by (try simp only [List.map_toArray, List.map_cons, List.map_nil]); first | done | rfl | (simp only [List.length_drop, List.length_take]; rfl)) ?_; (with_reducible refine (parlanceref00_Spare.calls k _ _ l0 t182 _ ?side1 ?side2 A6.out).mono ?_); (case side1 => repeat (first | exact (Kd.C_below HR0.out HB.out) | (with_reducible refine Kd.C_alloc ?_ _) | (with_reducible refine Kd.C_drewN ?_ _) | (with_reducible refine Kd.C_drew ?_))); (case side2 => exact HC0.out); rintro e w9 ⟨v183, rfl, ho0, hb⟩; refine ⟨_, rfl, ?_⟩; have n0_ := Aside0.mk (Kd.R_lower ho0 (below_size (by repeat (first | (with_reducible first | exact HB.out | apply below_alloc | apply pw_below_drewN | apply below_drew1) | exact HB.out)))); have n1_ := Aside0.mk (below_step (by repeat (first | (with_reducible first | exact HB.out | apply below_alloc | apply pw_below_drewN | apply below_drew1) | exact HB.out)) hb); clear HB; have HO184 := n0_; have HB := n1_; clear n0_ n1_; (try clear hb); (try clear hb2); (try clear hk); (try clear hi); (try clear ho0)))
      (try simp only [Act.put, List.setIfInBounds_toArray, List.set_cons_zero, List.set_cons_succ])
      go_cut [30] (fun v30 wc => ∃ (kq : Nat) (x30_6 : Bool), v30 = .bool x30_6 ∧ Aside0 (parlancelaw04_UtfTexts.j0 kq l0 x30_6 = some r) ∧ Aside0 (kq ≤ k) ∧ Aside0 (Below w.heap.size w wc))
      case first =>
        have H := HC7.out
        clear HC7
        by_cases c10 : 0 ≤ (l0.length : Int)
        · rw [if_pos c10] at H
          have c10b0 := eq_true c10
          have c10b1 : decide (0 ≤ (l0.length : Int)) = true := decide_eq_true c10
          clear c10
          by_cases c11 : (l0.length : Int) ≤ (t182.length : Int)
          · rw [if_pos c11] at H
            have c11b0 := eq_true c11
            have c11b1 : decide ((l0.length : Int) ≤ (t182.length : Int)) = true := decide_eq_true c11
            clear c11
            obtain ⟨y185, hy185⟩ : ∃ y_ : List Int, y_ = (t182.take ((l0.length : Int) : Int).toNat) := ⟨_, rfl⟩
            replace H : ((utf_Valid.f k y185).bind fun t189 => ((parlanceref04_Valid.f k l0).bind fun t190 => (if t189 = t190 then ((parlanceref00_Spare.f k l0).bind fun t191 => ((parlanceref00_SameBytes.f k t182 t191).bind fun t194 => (parlancelaw04_UtfTexts.j0 k l0 (!t194)))) else (parlancelaw04_UtfTexts.j0 k l0 true)))) = some r := by first | (rw [hy185]; with_reducible exact H) | (have H2_ := (Option.bind_some _ _).symm.trans H; rw [hy185]; with_reducible exact H2_) | (have H2_ := (Option.bind_some _ _).symm.trans H; with_reducible exact H2_) | with_reducible exact H | (rw [hy185]; exact H) | exact H
            have Ny185 := Aside0.mk hy185
            clear hy185
            replace H := Option.bind_eq_some_iff.mp H
            obtain ⟨t189, A120, H⟩ := H
            replace H : ((parlanceref04_Valid.f k l0).bind fun t190 => (if t189 = t190 then ((parlanceref00_Spare.f k l0).bind fun t191 => ((parlanceref00_SameBytes.f k t182 t191).bind fun t194 => (parlancelaw04_UtfTexts.j0 k l0 (!t194)))) else (parlancelaw04_UtfTexts.j0 k l0 true))) = some r := H
            have A12 := Aside0.mk A120
            clear A120
            replace H := Option.bind_eq_some_iff.mp H
            obtain ⟨t190, A130, H⟩ := H
            replace H : (if t189 = t190 then ((parlanceref00_Spare.f k l0).bind fun t191 => ((parlanceref00_SameBytes.f k t182 t191).bind fun t194 => (parlancelaw04_UtfTexts.j0 k l0 (!t194)))) else (parlancelaw04_UtfTexts.j0 k l0 true)) = some r := H
            have A13 := Aside0.mk A130
            clear A130
            by_cases c14 : t189 = t190
            · rw [if_pos c14] at H
              have c14b0 : (t189 == t190) = true := beq_iff_eq.mpr c14
              have c14b1 : (t189 != t190) = false := bne_eq_false_iff_eq.mpr c14
              clear c14
              (first | rw [c14b0] | (simp only [i64_w, i32_w]; rw [c14b0]) | skip)
              replace H := Option.bind_eq_some_iff.mp H
              obtain ⟨t191, A150, H⟩ := H
              replace H : ((parlanceref00_SameBytes.f k t182 t191).bind fun t194 => (parlancelaw04_UtfTexts.j0 k l0 (!t194))) = some r := H
              have A15 := Aside0.mk A150
              clear A150
              replace H := Option.bind_eq_some_iff.mp H
              obtain ⟨t194, A160, H⟩ := H
              replace H : (parlancelaw04_UtfTexts.j0 k l0 (!t194)) = some r := H
              have A16 := Aside0.mk A160
              clear A160
              have H' := Aside0.mk H
              clear H
              obtain ⟨Ao18, co18, eo18⟩ := Kd.R_slice HO184.out
              subst eo18
              have q17 : ((l0.length : Int) : Int) ≤ ((t182.length : Int) : Int) := of_decide_eq_true (by first | (with_reducible assumption) | assumption)
              obtain ⟨i017, hi017, _, hsz17, _⟩ := info_parts info5
              have hroom17 : t182.length ≤ co18 := (Kd.R_reads' HO184.out).2.1
              have hC17 : Kd.C (Kd.int .u8) _ Ao18 t182.length t182 := (Kd.R_reads' HO184.out).2.2
              have hcut17 := cut_to (P := Tryd.prog) 22 5 .i64 Tryd.underlying22 hi017 Ao18 t182.length co18 (l0.length : Int) (of_decide_eq_true (by first | (with_reducible assumption) | assumption)) q17 hroom17
              have hr17 := Kd.C_take (m := ((l0.length : Int) : Int).toNat) hC17 (by omega)
              have hy17 : y185.length = ((l0.length : Int) : Int).toNat := (by rw [Ny185.out, List.length_take]; omega)
              rw [← Ny185.out] at hr17
              rw [← hy17] at hcut17
              have HR188 := Aside0.mk hr17
              have HC188 := Aside0.mk (show y185.length ≤ co18 from by omega)
              clear hr17 hC17 hroom17 hi017 hsz17
              have KY17 := Aside0.mk hy17
              clear hy17
              have KL17 := Aside0.mk (show ((l0.length : Int) : Int).toNat ≤ t182.length from by omega)
              replace q17 := eq_true q17
              go_wp2_with (first | ((with_reducible refine gate_callee (f := 13) rfl ?_); refine goesL_ (some 20) rfl rfl Tryd.func13 (by kernel_rfl) rfl #[.slice Ao18 y185.length co18] rfl (by (try simp only [List.map_toArray, List.map_cons, List.map_nil]); first | done | rfl | (simp only [List.length_drop, List.length_take]; rfl)) ?_; (with_reducible refine (utf_Valid.calls k _ _ y185 t189 _ ?side1 ?side2 ?side3 A12.out).mono ?_); (case side1 => repeat (first | exact (by repeat (first | (with_reducible exact HR188.out) | (with_reducible refine Kd.C_alloc ?_ _) | (with_reducible refine Kd.C_drewN ?_ _) | (with_reducible refine Kd.C_drew ?_) | exact HR188.out)) | (with_reducible refine Kd.C_alloc ?_ _) | (with_reducible refine Kd.C_drewN ?_ _) | (with_reducible refine Kd.C_drew ?_))); (case side2 => exact HC188.out); (case side3 => exact T8_below HT.out (by repeat (first | (with_reducible first | exact HB.out | apply below_alloc | apply pw_below_drewN | apply below_drew1) | exact HB.out))); rintro e w19 ⟨rfl, hb⟩; refine ⟨_, rfl, ?_⟩; have n0_ := Aside0.mk (Kd.R_below (by (with_reducible repeat (first | apply Kd.R_alloc | apply Kd.R_drewN | apply Kd.R_drew)); exact HO184.out) hb); have n1_ := Aside0.mk (Kd.C_below (by repeat (first | (with_reducible exact HR188.out) | (with_reducible refine Kd.C_alloc ?_ _) | (with_reducible refine Kd.C_drewN ?_ _) | (with_reducible refine Kd.C_drew ?_) | exact HR188.out)) hb); have n2_ := Aside0.mk (below_step (by repeat (first | (with_reducible first | exact HB.out | apply below_alloc | apply pw_below_drewN | apply below_drew1) | exact HB.out)) hb); clear HO184; clear HR188; clear HB; have HO184 := n0_; have HR188 := n1_; have HB := n2_; clear n0_ n1_ n2_; (try clear hb); (try clear hb2); (try clear hk); (try clear hi)) | ((with_reducible refine gate_callee (f := 14) rfl ?_); refine goesL_ (some 22) rfl rfl Tryd.func14 (by kernel_rfl) rfl #[.slice A0 l0.length c0] rfl (by (try simp only [List.map_toArray, List.map_cons, List.map_nil]); first | done | rfl | (simp only [List.length_drop, List.length_take]; rfl)) ?_; (with_reducible refine (parlanceref04_Valid.calls k _ _ l0 t190 _ ?side1 ?side2 A13.out).mono ?_); (case side1 => repeat (first | exact (Kd.C_below HR0.out HB.out) | (with_reducible refine Kd.C_alloc ?_ _) | (with_reducible refine Kd.C_drewN ?_ _) | (with_reducible refine Kd.C_drew ?_))); (case side2 => exact HC0.out); rintro e w20 ⟨rfl, hb⟩; refine ⟨_, rfl, ?_⟩; have n0_ := Aside0.mk (Kd.R_below (by (with_reducible repeat (first | apply Kd.R_alloc | apply Kd.R_drewN | apply Kd.R_drew)); exact HO184.out) hb); have n1_ := Aside0.mk (Kd.C_below (by repeat (first | (with_reducible exact HR188.out) | (with_reducible refine Kd.C_alloc ?_ _) | (with_reducible refine Kd.C_drewN ?_ _) | (with_reducible refine Kd.C_drew ?_) | exact HR188.out)) hb); have n2_ := Aside0.mk (below_step (by repeat (first | (with_reducible first | exact HB.out | apply below_alloc | apply pw_below_drewN | apply below_drew1) | exact HB.out)) hb); clear HO184; clear HR188; clear HB; have HO184 := n0_; have HR188 := n1_; have HB := n2_; clear n0_ n1_ n2_; (try clear hb); (try clear hb2); (try clear hk); (try clear hi)) | (go_at_call 12; (with_reducible refine (parlanceref00_Spare.calls k _ _ l0 t191 _ ?side1 ?side2 A15.out).mono ?_); (case side1 => repeat (first | exact (Kd.C_below HR0.out HB.out) | (with_reducible refine Kd.C_alloc ?_ _) | (with_reducible refine Kd.C_drewN ?_ _) | (with_reducible refine Kd.C_drew ?_))); (case side2 => exact HC0.out); rintro e w21 ⟨v192, rfl, ho0, hb⟩; have n0_ := Aside0.mk (Kd.R_elder' (by (with_reducible repeat (first | apply Kd.R_alloc | apply Kd.R_drewN | apply Kd.R_drew)); exact HO184.out) (Kd.R_base ho0) hb); have n1_ := Aside0.mk (Kd.R_lower (Kd.R_new' ho0 (Kd.R_lt (by (with_reducible repeat (first | apply Kd.R_alloc | apply Kd.R_drewN | apply Kd.R_drew)); exact HO184.out))) (below_size (by repeat (first | (with_reducible first | exact HB.out | apply below_alloc | apply pw_below_drewN | apply below_drew1) | exact HB.out)))); have n2_ := Aside0.mk (Kd.C_below (by repeat (first | (with_reducible exact HR188.out) | (with_reducible refine Kd.C_alloc ?_ _) | (with_reducible refine Kd.C_drewN ?_ _) | (with_reducible refine Kd.C_drew ?_) | exact HR188.out)) hb); have n3_ := Aside0.mk (below_step (by repeat (first | (with_reducible first | exact HB.out | apply below_alloc | apply pw_below_drewN | apply below_drew1) | exact HB.out)) hb); clear HO184; clear HR188; clear HB; have HO184 := n0_; have HO193 := n1_; have HR188 := n2_; have HB := n3_; clear n0_ n1_ n2_ n3_; (try clear hb); (try clear hb2); (try clear hk); (try clear hi); (try clear ho0); obtain ⟨Ao22, co22, eo22⟩ := Kd.R_slice HO193.out; subst eo22) | (go_at_call 15; (with_reducible refine (parlanceref00_SameBytes.calls k _ _ t182 _ _ t191 t194 _ ?side1 ?side2 ?side3 ?side4 A16.out).mono ?_); (case side1 => repeat (first | exact (Kd.R_reads' HO184.out).2.2 | (with_reducible refine Kd.C_alloc ?_ _) | (with_reducible refine Kd.C_drewN ?_ _) | (with_reducible refine Kd.C_drew ?_))); (case side2 => exact (Kd.R_reads' HO184.out).2.1); (case side3 => repeat (first | exact (Kd.R_reads' HO193.out).2.2 | (with_reducible refine Kd.C_alloc ?_ _) | (with_reducible refine Kd.C_drewN ?_ _) | (with_reducible refine Kd.C_drew ?_))); (case side4 => exact (Kd.R_reads' HO193.out).2.1); rintro e w' ⟨rfl, ⟨nd, rfl⟩⟩))
              go_meet
              case rel => exact ⟨_, (!t194), (by first | rfl | (simp; done) | (simp [*]; done)), H', ⟨by first | omega | exact Nat.le_refl _⟩, ⟨by repeat (first | (with_reducible first | exact HB.out | apply below_alloc | apply pw_below_drewN | apply below_drew1) | exact HB.out)⟩⟩
            · rw [if_neg c14] at H
              have c14b0 : (t189 == t190) = false := beq_eq_false_iff_ne.mpr c14
              have c14b1 : (t189 != t190) = true := bne_iff_ne.mpr c14
              (first | rw [c14b0] | (simp only [i64_w, i32_w]; rw [c14b0]) | skip)
              have H' := Aside0.mk H
              clear H
              obtain ⟨Ao24, co24, eo24⟩ := Kd.R_slice HO184.out
              subst eo24
              have q23 : ((l0.length : Int) : Int) ≤ ((t182.length : Int) : Int) := of_decide_eq_true (by first | (with_reducible assumption) | assumption)
              obtain ⟨i023, hi023, _, hsz23, _⟩ := info_parts info5
              have hroom23 : t182.length ≤ co24 := (Kd.R_reads' HO184.out).2.1
              have hC23 : Kd.C (Kd.int .u8) _ Ao24 t182.length t182 := (Kd.R_reads' HO184.out).2.2
              have hcut23 := cut_to (P := Tryd.prog) 22 5 .i64 Tryd.underlying22 hi023 Ao24 t182.length co24 (l0.length : Int) (of_decide_eq_true (by first | (with_reducible assumption) | assumption)) q23 hroom23
              have hr23 := Kd.C_take (m := ((l0.length : Int) : Int).toNat) hC23 (by omega)
              have hy23 : y185.length = ((l0.length : Int) : Int).toNat := (by rw [Ny185.out, List.length_take]; omega)
              rw [← Ny185.out] at hr23
              rw [← hy23] at hcut23
              have HR188 := Aside0.mk hr23
              have HC188 := Aside0.mk (show y185.length ≤ co24 from by omega)
              clear hr23 hC23 hroom23 hi023 hsz23
              have KY23 := Aside0.mk hy23
              clear hy23
              have KL23 := Aside0.mk (show ((l0.length : Int) : Int).toNat ≤ t182.length from by omega)
              replace q23 := eq_true q23
              go_wp2_with (first | ((with_reducible refine gate_callee (f := 13) rfl ?_); refine goesL_ (some 20) rfl rfl Tryd.func13 (by kernel_rfl) rfl #[.slice Ao24 y185.length co24] rfl (by (try simp only [List.map_toArray, List.map_cons, List.map_nil]); first | done | rfl | (simp only [List.length_drop, List.length_take]; rfl)) ?_; (with_reducible refine (utf_Valid.calls k _ _ y185 t189 _ ?side1 ?side2 ?side3 A12.out).mono ?_); (case side1 => repeat (first | exact (by repeat (first | (with_reducible exact HR188.out) | (with_reducible refine Kd.C_alloc ?_ _) | (with_reducible refine Kd.C_drewN ?_ _) | (with_reducible refine Kd.C_drew ?_) | exact HR188.out)) | (with_reducible refine Kd.C_alloc ?_ _) | (with_reducible refine Kd.C_drewN ?_ _) | (with_reducible refine Kd.C_drew ?_))); (case side2 => exact HC188.out); (case side3 => exact T8_below HT.out (by repeat (first | (with_reducible first | exact HB.out | apply below_alloc | apply pw_below_drewN | apply below_drew1) | exact HB.out))); rintro e w25 ⟨rfl, hb⟩; refine ⟨_, rfl, ?_⟩; have n0_ := Aside0.mk (Kd.R_below (by (with_reducible repeat (first | apply Kd.R_alloc | apply Kd.R_drewN | apply Kd.R_drew)); exact HO184.out) hb); have n1_ := Aside0.mk (Kd.C_below (by repeat (first | (with_reducible exact HR188.out) | (with_reducible refine Kd.C_alloc ?_ _) | (with_reducible refine Kd.C_drewN ?_ _) | (with_reducible refine Kd.C_drew ?_) | exact HR188.out)) hb); have n2_ := Aside0.mk (below_step (by repeat (first | (with_reducible first | exact HB.out | apply below_alloc | apply pw_below_drewN | apply below_drew1) | exact HB.out)) hb); clear HO184; clear HR188; clear HB; have HO184 := n0_; have HR188 := n1_; have HB := n2_; clear n0_ n1_ n2_; (try clear hb); (try clear hb2); (try clear hk); (try clear hi)) | ((with_reducible refine gate_callee (f := 14) rfl ?_); refine goesL_ (some 22) rfl rfl Tryd.func14 (by kernel_rfl) rfl #[.slice A0 l0.length c0] rfl (by (try simp only [List.map_toArray, List.map_cons, List.map_nil]); first | done | rfl | (simp only [List.length_drop, List.length_take]; rfl)) ?_; (with_reducible refine (parlanceref04_Valid.calls k _ _ l0 t190 _ ?side1 ?side2 A13.out).mono ?_); (case side1 => repeat (first | exact (Kd.C_below HR0.out HB.out) | (with_reducible refine Kd.C_alloc ?_ _) | (with_reducible refine Kd.C_drewN ?_ _) | (with_reducible refine Kd.C_drew ?_))); (case side2 => exact HC0.out); rintro e w26 ⟨rfl, hb⟩; refine ⟨_, rfl, ?_⟩; have n0_ := Aside0.mk (Kd.R_below (by (with_reducible repeat (first | apply Kd.R_alloc | apply Kd.R_drewN | apply Kd.R_drew)); exact HO184.out) hb); have n1_ := Aside0.mk (Kd.C_below (by repeat (first | (with_reducible exact HR188.out) | (with_reducible refine Kd.C_alloc ?_ _) | (with_reducible refine Kd.C_drewN ?_ _) | (with_reducible refine Kd.C_drew ?_) | exact HR188.out)) hb); have n2_ := Aside0.mk (below_step (by repeat (first | (with_reducible first | exact HB.out | apply below_alloc | apply pw_below_drewN | apply below_drew1) | exact HB.out)) hb); clear HO184; clear HR188; clear HB; have HO184 := n0_; have HR188 := n1_; have HB := n2_; clear n0_ n1_ n2_; (try clear hb); (try clear hb2); (try clear hk); (try clear hi)))
              go_meet
              case rel => exact ⟨_, (true), (by first | rfl | (simp; done) | (simp [*]; done)), H', ⟨by first | omega | exact Nat.le_refl _⟩, ⟨by repeat (first | (with_reducible first | exact HB.out | apply below_alloc | apply pw_below_drewN | apply below_drew1) | exact HB.out)⟩⟩
          · rw [if_neg c11] at H
            exact absurd H (by simp)
        · rw [if_neg c10] at H
          exact absurd H (by simp)
      case rest =>
        clear HC7
        try clear c1
        try clear q1
        try clear p2
        try clear q2
        try clear c3
        try clear c4
        try clear c4b0
        try clear c4b1
        try clear c10
        try clear c10b0
        try clear c10b1
        try clear c11
        try clear c11b0
        try clear c11b1
        try clear c12
        try clear c13
        try clear c14
        try clear c14b0
        try clear c14b1
        try clear q17
        try clear q23
        try clear q17
        try clear q23
        obtain ⟨kq, x30_6, rfl, HA, HJ6, HB⟩ := hcut
        cases kq with
        | zero => exact absurd HA.out (by simp [parlancelaw04_UtfTexts.j0])
        | succ kj6 =>
          have H := HA.out
          clear HA
          simp only [parlancelaw04_UtfTexts.j0] at H
          by_cases c27 : x30_6 = true
          · subst c27
            have H1 : (some false) = some r := by rw [if_pos rfl] at H; exact H
            clear H
            have H := H1
            clear H1
            obtain rfl := Option.some.inj H
            go_wp2
            go_ret
            exact ⟨by first | rfl | (simp [errW_none, errW_some] <;> rfl) | (simp [*, errW_none, errW_some] <;> rfl), by repeat (first | (with_reducible first | exact HB.out | apply below_alloc | apply pw_below_drewN | apply below_drew1) | exact HB.out)⟩
          · replace c27 := Bool.eq_false_iff.mpr c27
            subst c27
            have H1 : ((GRunes.f (strOfNums l0)).bind fun bt195 => ((GRefRunes.f (strOfNums l0)).bind fun bt199 => ((parlanceref00_SameInts.f kj6 bt195.1 bt199.1).bind fun t203 => (if t203 = true then (parlancelaw04_UtfTexts.j1 kj6 (strOfNums l0) (bt195.2 != bt199.2)) else (parlancelaw04_UtfTexts.j1 kj6 (strOfNums l0) true))))) = some r := by rw [if_neg (show ¬ (false = true) by decide)] at H; exact H
            clear H
            have H := H1
            clear H1
            replace H := Option.bind_eq_some_iff.mp H
            obtain ⟨⟨t195, t196⟩, A280, H⟩ := H
            replace H : ((GRefRunes.f (strOfNums l0)).bind fun bt199 => ((parlanceref00_SameInts.f kj6 t195 bt199.1).bind fun t203 => (if t203 = true then (parlancelaw04_UtfTexts.j1 kj6 (strOfNums l0) (t196 != bt199.2)) else (parlancelaw04_UtfTexts.j1 kj6 (strOfNums l0) true)))) = some r := H
            have A28 := Aside0.mk A280
            clear A280
            replace H := Option.bind_eq_some_iff.mp H
            obtain ⟨⟨t199, t200⟩, A290, H⟩ := H
            replace H : ((parlanceref00_SameInts.f kj6 t195 t199).bind fun t203 => (if t203 = true then (parlancelaw04_UtfTexts.j1 kj6 (strOfNums l0) (t196 != t200)) else (parlancelaw04_UtfTexts.j1 kj6 (strOfNums l0) true))) = some r := H
            have A29 := Aside0.mk A290
            clear A290
            have HC30 := Aside0.mk H
            clear H
            have hcv32 := Kd.C_string (P := Tryd.prog) (A := A0) (c := c0) Tryd.underlying22 Tryd.underlying5 Tryd.underlying9 (Kd.C_below HR0.out HB.out)
            go_upto_region 11 with (first | ((with_reducible refine gate_callee (f := 16) rfl ?_); refine goesL_ (some 35) rfl rfl Tryd.func16 (by kernel_rfl) rfl #[.string (strOfNums l0)] rfl (by (try simp only [List.map_toArray, List.map_cons, List.map_nil]); first | done | rfl | (simp only [List.length_drop, List.length_take]; rfl)) ?_; (with_reducible refine (GRunes.calls (strOfNums l0) t195 t196 _ ?side1 A28.out).mono ?_); (case side1 => exact T8_below HT.out (by repeat (first | (with_reducible first | exact HB.out | apply below_alloc | apply pw_below_drewN | apply below_drew1) | exact HB.out))); rintro e w33 ⟨v197, rfl, ho0, hb⟩; refine ⟨_, rfl, ?_⟩; have n0_ := Aside0.mk (Kd.R_lower ho0 (below_size (by repeat (first | (with_reducible first | exact HB.out | apply below_alloc | apply pw_below_drewN | apply below_drew1) | exact HB.out)))); have n1_ := Aside0.mk (below_step (by repeat (first | (with_reducible first | exact HB.out | apply below_alloc | apply pw_below_drewN | apply below_drew1) | exact HB.out)) hb); clear HB; have HO198 := n0_; have HB := n1_; clear n0_ n1_; (try clear hb); (try clear hb2); (try clear hk); (try clear hi); (try clear ho0)) | ((with_reducible refine gate_callee (f := 17) rfl ?_); refine goesL_ (some 40) rfl rfl Tryd.func17 (by kernel_rfl) rfl #[.string (strOfNums l0)] rfl (by (try simp only [List.map_toArray, List.map_cons, List.map_nil]); first | done | rfl | (simp only [List.length_drop, List.length_take]; rfl)) ?_; (with_reducible refine (GRefRunes.calls (strOfNums l0) t199 t200 _ A29.out).mono ?_); rintro e w34 ⟨v201, rfl, ho0, hb⟩; refine ⟨_, rfl, ?_⟩; have n0_ := Aside0.mk (Kd.R_elder' (by (with_reducible repeat (first | apply Kd.R_alloc | apply Kd.R_drewN | apply Kd.R_drew)); exact HO198.out) (Kd.R_base ho0) hb); have n1_ := Aside0.mk (Kd.R_lower (Kd.R_new' ho0 (Kd.R_lt (by (with_reducible repeat (first | apply Kd.R_alloc | apply Kd.R_drewN | apply Kd.R_drew)); exact HO198.out))) (below_size (by repeat (first | (with_reducible first | exact HB.out | apply below_alloc | apply pw_below_drewN | apply below_drew1) | exact HB.out)))); have n2_ := Aside0.mk (below_step (by repeat (first | (with_reducible first | exact HB.out | apply below_alloc | apply pw_below_drewN | apply below_drew1) | exact HB.out)) hb); clear HO198; clear HB; have HO198 := n0_; have HO202 := n1_; have HB := n2_; clear n0_ n1_ n2_; (try clear hb); (try clear hb2); (try clear hk); (try clear hi); (try clear ho0)))
            (try simp only [Act.put, List.setIfInBounds_toArray, List.set_cons_zero, List.set_cons_succ])
            go_cut [51] (fun v51 wc => ∃ (kq : Nat) (x51_29 : Bool), v51 = .bool x51_29 ∧ Aside0 (parlancelaw04_UtfTexts.j1 kq (strOfNums l0) x51_29 = some r) ∧ Aside0 (kq ≤ kj6) ∧ Aside0 (Below w.heap.size w wc))
            case first =>
              have H := HC30.out
              clear HC30
              replace H := Option.bind_eq_some_iff.mp H
              obtain ⟨t203, A350, H⟩ := H
              replace H : (if t203 = true then (parlancelaw04_UtfTexts.j1 kj6 (strOfNums l0) (t196 != t200)) else (parlancelaw04_UtfTexts.j1 kj6 (strOfNums l0) true)) = some r := H
              have A35 := Aside0.mk A350
              clear A350
              by_cases c36 : t203 = true
              · subst c36
                have H1 : (parlancelaw04_UtfTexts.j1 kj6 (strOfNums l0) (t196 != t200)) = some r := by rw [if_pos rfl] at H; exact H
                clear H
                have H := H1
                clear H1
                have H' := Aside0.mk H
                clear H
                obtain ⟨Ao37, co37, eo37⟩ := Kd.R_slice HO198.out
                subst eo37
                obtain ⟨Ao38, co38, eo38⟩ := Kd.R_slice HO202.out
                subst eo38
                go_wp2_with (first | ((with_reducible refine gate_callee (f := 18) rfl ?_); refine goesL_ (some 45) rfl rfl Tryd.func18 (by kernel_rfl) rfl #[.slice Ao37 t195.length co37, .slice Ao38 t199.length co38] rfl (by (try simp only [List.map_toArray, List.map_cons, List.map_nil]); first | done | rfl | (simp only [List.length_drop, List.length_take]; rfl)) ?_; (with_reducible refine (parlanceref00_SameInts.calls kj6 _ _ t195 _ _ t199 true _ ?side1 ?side2 ?side3 ?side4 A35.out).mono ?_); (case side1 => repeat (first | exact (Kd.R_reads' HO198.out).2.2 | (with_reducible refine Kd.C_alloc ?_ _) | (with_reducible refine Kd.C_drewN ?_ _) | (with_reducible refine Kd.C_drew ?_))); (case side2 => exact (Kd.R_reads' HO198.out).2.1); (case side3 => repeat (first | exact (Kd.R_reads' HO202.out).2.2 | (with_reducible refine Kd.C_alloc ?_ _) | (with_reducible refine Kd.C_drewN ?_ _) | (with_reducible refine Kd.C_drew ?_))); (case side4 => exact (Kd.R_reads' HO202.out).2.1); rintro e w' ⟨rfl, ⟨nd, rfl⟩⟩; refine ⟨_, rfl, ?_⟩))
                go_meet
                case rel => exact ⟨_, ((t196 != t200)), (by first | rfl | (simp; done) | (simp [*]; done)), H', ⟨by have := HJ6.out; first | omega | exact Nat.le_refl _⟩, ⟨by repeat (first | (with_reducible first | exact HB.out | apply below_alloc | apply pw_below_drewN | apply below_drew1) | exact HB.out)⟩⟩
              · replace c36 := Bool.eq_false_iff.mpr c36
                subst c36
                have H1 : (parlancelaw04_UtfTexts.j1 kj6 (strOfNums l0) true) = some r := by rw [if_neg (show ¬ (false = true) by decide)] at H; exact H
                clear H
                have H := H1
                clear H1
                have H' := Aside0.mk H
                clear H
                obtain ⟨Ao39, co39, eo39⟩ := Kd.R_slice HO198.out
                subst eo39
                obtain ⟨Ao40, co40, eo40⟩ := Kd.R_slice HO202.out
                subst eo40
                go_wp2_with (first | ((with_reducible refine gate_callee (f := 18) rfl ?_); refine goesL_ (some 45) rfl rfl Tryd.func18 (by kernel_rfl) rfl #[.slice Ao39 t195.length co39, .slice Ao40 t199.length co40] rfl (by (try simp only [List.map_toArray, List.map_cons, List.map_nil]); first | done | rfl | (simp only [List.length_drop, List.length_take]; rfl)) ?_; (with_reducible refine (parlanceref00_SameInts.calls kj6 _ _ t195 _ _ t199 false _ ?side1 ?side2 ?side3 ?side4 A35.out).mono ?_); (case side1 => repeat (first | exact (Kd.R_reads' HO198.out).2.2 | (with_reducible refine Kd.C_alloc ?_ _) | (with_reducible refine Kd.C_drewN ?_ _) | (with_reducible refine Kd.C_drew ?_))); (case side2 => exact (Kd.R_reads' HO198.out).2.1); (case side3 => repeat (first | exact (Kd.R_reads' HO202.out).2.2 | (with_reducible refine Kd.C_alloc ?_ _) | (with_reducible refine Kd.C_drewN ?_ _) | (with_reducible refine Kd.C_drew ?_))); (case side4 => exact (Kd.R_reads' HO202.out).2.1); rintro e w' ⟨rfl, ⟨nd, rfl⟩⟩; refine ⟨_, rfl, ?_⟩))
                go_meet
                case rel => exact ⟨_, (true), (by first | rfl | (simp; done) | (simp [*]; done)), H', ⟨by have := HJ6.out; first | omega | exact Nat.le_refl _⟩, ⟨by repeat (first | (with_reducible first | exact HB.out | apply below_alloc | apply pw_below_drewN | apply below_drew1) | exact HB.out)⟩⟩
            case rest =>
              clear HC30
              try clear c1
              try clear q1
              try clear c2
              try clear p2
              try clear q2
              try clear c3
              try clear hcv3
              try clear c4
              try clear c4b0
              try clear c4b1
              try clear c10
              try clear c10b0
              try clear c10b1
              try clear c11
              try clear c11b0
              try clear c11b1
              try clear c12
              try clear c13
              try clear c14
              try clear c14b0
              try clear c14b1
              try clear c16
              try clear c17
              try clear q17
              try clear c18
              try clear q23
              try clear c27
              try clear hcv32
              try clear c36
              try clear p2
              try clear q1
              try clear q17
              try clear q2
              try clear q23
              obtain ⟨kq, x51_29, rfl, HA, HJ29, HB⟩ := hcut
              cases kq with
              | zero => exact absurd HA.out (by simp [parlancelaw04_UtfTexts.j1])
              | succ kj29 =>
                have H := HA.out
                clear HA
                simp only [parlancelaw04_UtfTexts.j1] at H
                by_cases c41 : x51_29 = true
                · subst c41
                  have H1 : (some false) = some r := by rw [if_pos rfl] at H; exact H
                  clear H
                  have H := H1
                  clear H1
                  obtain rfl := Option.some.inj H
                  go_wp2
                  go_ret
                  exact ⟨by first | rfl | (simp [errW_none, errW_some] <;> rfl) | (simp [*, errW_none, errW_some] <;> rfl), by repeat (first | (with_reducible first | exact HB.out | apply below_alloc | apply pw_below_drewN | apply below_drew1) | exact HB.out)⟩
                · replace c41 := Bool.eq_false_iff.mpr c41
                  subst c41
                  have H1 : ((utf_Units.f kj29 (strOfNums l0)).bind fun bt204 => ((parlanceref04_Units.f kj29 (strOfNums l0)).bind fun bt208 => ((parlanceref00_SameInts.f kj29 bt204.1 bt208.1).bind fun t212 => (if t212 = true then (some (bt204.2 == bt208.2)) else (some false))))) = some r := by rw [if_neg (show ¬ (false = true) by decide)] at H; exact H
                  clear H
                  have H := H1
                  clear H1
                  replace H := Option.bind_eq_some_iff.mp H
                  obtain ⟨⟨t204, t205⟩, A420, H⟩ := H
                  replace H : ((parlanceref04_Units.f kj29 (strOfNums l0)).bind fun bt208 => ((parlanceref00_SameInts.f kj29 t204 bt208.1).bind fun t212 => (if t212 = true then (some (t205 == bt208.2)) else (some false)))) = some r := H
                  have A42 := Aside0.mk A420
                  clear A420
                  replace H := Option.bind_eq_some_iff.mp H
                  obtain ⟨⟨t208, t209⟩, A430, H⟩ := H
                  replace H : ((parlanceref00_SameInts.f kj29 t204 t208).bind fun t212 => (if t212 = true then (some (t205 == t209)) else (some false))) = some r := H
                  have A43 := Aside0.mk A430
                  clear A430
                  replace H := Option.bind_eq_some_iff.mp H
                  obtain ⟨t212, A440, H⟩ := H
                  replace H : (if t212 = true then (some (t205 == t209)) else (some false)) = some r := H
                  have A44 := Aside0.mk A440
                  clear A440
                  by_cases c45 : t212 = true
                  · subst c45
                    have H1 : (some (t205 == t209)) = some r := by rw [if_pos rfl] at H; exact H
                    clear H
                    have H := H1
                    clear H1
                    obtain rfl := Option.some.inj H
                    go_wp2_with (first | ((with_reducible refine gate_callee (f := 19) rfl ?_); refine goesL_ (some 54) rfl rfl Tryd.func19 (by kernel_rfl) rfl #[.string (strOfNums l0)] rfl (by (try simp only [List.map_toArray, List.map_cons, List.map_nil]); first | done | rfl | (simp only [List.length_drop, List.length_take]; rfl)) ?_; (with_reducible refine (utf_Units.calls kj29 (strOfNums l0) t204 t205 _ ?side1 A42.out).mono ?_); (case side1 => exact T8_below HT.out (by repeat (first | (with_reducible first | exact HB.out | apply below_alloc | apply pw_below_drewN | apply below_drew1) | exact HB.out))); rintro e w46 ⟨v206, rfl, ho0, hb⟩; refine ⟨_, rfl, ?_⟩; have n0_ := Aside0.mk (Kd.R_lower ho0 (below_size (by repeat (first | (with_reducible first | exact HB.out | apply below_alloc | apply pw_below_drewN | apply below_drew1) | exact HB.out)))); have n1_ := Aside0.mk (below_step (by repeat (first | (with_reducible first | exact HB.out | apply below_alloc | apply pw_below_drewN | apply below_drew1) | exact HB.out)) hb); clear HB; have HO207 := n0_; have HB := n1_; clear n0_ n1_; (try clear hb); (try clear hb2); (try clear hk); (try clear hi); (try clear ho0)) | ((with_reducible refine gate_callee (f := 20) rfl ?_); refine goesL_ (some 59) rfl rfl Tryd.func20 (by kernel_rfl) rfl #[.string (strOfNums l0)] rfl (by (try simp only [List.map_toArray, List.map_cons, List.map_nil]); first | done | rfl | (simp only [List.length_drop, List.length_take]; rfl)) ?_; (with_reducible refine (parlanceref04_Units.calls kj29 (strOfNums l0) t208 t209 _ A43.out).mono ?_); rintro e w47 ⟨v210, rfl, ho0, hb⟩; refine ⟨_, rfl, ?_⟩; have n0_ := Aside0.mk (Kd.R_elder' (by (with_reducible repeat (first | apply Kd.R_alloc | apply Kd.R_drewN | apply Kd.R_drew)); exact HO207.out) (Kd.R_base ho0) hb); have n1_ := Aside0.mk (Kd.R_lower (Kd.R_new' ho0 (Kd.R_lt (by (with_reducible repeat (first | apply Kd.R_alloc | apply Kd.R_drewN | apply Kd.R_drew)); exact HO207.out))) (below_size (by repeat (first | (with_reducible first | exact HB.out | apply below_alloc | apply pw_below_drewN | apply below_drew1) | exact HB.out)))); have n2_ := Aside0.mk (below_step (by repeat (first | (with_reducible first | exact HB.out | apply below_alloc | apply pw_below_drewN | apply below_drew1) | exact HB.out)) hb); clear HO207; clear HB; have HO207 := n0_; have HO211 := n1_; have HB := n2_; clear n0_ n1_ n2_; (try clear hb); (try clear hb2); (try clear hk); (try clear hi); (try clear ho0); obtain ⟨Ao48, co48, eo48⟩ := Kd.R_slice HO207.out; subst eo48; obtain ⟨Ao49, co49, eo49⟩ := Kd.R_slice HO211.out; subst eo49) | ((with_reducible refine gate_callee (f := 18) rfl ?_); refine goesL_ (some 64) rfl rfl Tryd.func18 (by kernel_rfl) rfl #[.slice Ao48 t204.length co48, .slice Ao49 t208.length co49] rfl (by (try simp only [List.map_toArray, List.map_cons, List.map_nil]); first | done | rfl | (simp only [List.length_drop, List.length_take]; rfl)) ?_; (with_reducible refine (parlanceref00_SameInts.calls kj29 _ _ t204 _ _ t208 true _ ?side1 ?side2 ?side3 ?side4 A44.out).mono ?_); (case side1 => repeat (first | exact (Kd.R_reads' HO207.out).2.2 | (with_reducible refine Kd.C_alloc ?_ _) | (with_reducible refine Kd.C_drewN ?_ _) | (with_reducible refine Kd.C_drew ?_))); (case side2 => exact (Kd.R_reads' HO207.out).2.1); (case side3 => repeat (first | exact (Kd.R_reads' HO211.out).2.2 | (with_reducible refine Kd.C_alloc ?_ _) | (with_reducible refine Kd.C_drewN ?_ _) | (with_reducible refine Kd.C_drew ?_))); (case side4 => exact (Kd.R_reads' HO211.out).2.1); rintro e w' ⟨rfl, ⟨nd, rfl⟩⟩; refine ⟨_, rfl, ?_⟩))
                    go_ret
                    exact ⟨by first | rfl | (simp [errW_none, errW_some] <;> rfl) | (simp [*, errW_none, errW_some] <;> rfl), by repeat (first | (with_reducible first | exact HB.out | apply below_alloc | apply pw_below_drewN | apply below_drew1) | exact HB.out)⟩
                  · replace c45 := Bool.eq_false_iff.mpr c45
                    subst c45
                    have H1 : (some false) = some r := by rw [if_neg (show ¬ (false = true) by decide)] at H; exact H
                    clear H
                    have H := H1
                    clear H1
                    obtain rfl := Option.some.inj H
                    go_wp2_with (first | ((with_reducible refine gate_callee (f := 19) rfl ?_); refine goesL_ (some 54) rfl rfl Tryd.func19 (by kernel_rfl) rfl #[.string (strOfNums l0)] rfl (by (try simp only [List.map_toArray, List.map_cons, List.map_nil]); first | done | rfl | (simp only [List.length_drop, List.length_take]; rfl)) ?_; (with_reducible refine (utf_Units.calls kj29 (strOfNums l0) t204 t205 _ ?side1 A42.out).mono ?_); (case side1 => exact T8_below HT.out (by repeat (first | (with_reducible first | exact HB.out | apply below_alloc | apply pw_below_drewN | apply below_drew1) | exact HB.out))); rintro e w50 ⟨v206, rfl, ho0, hb⟩; refine ⟨_, rfl, ?_⟩; have n0_ := Aside0.mk (Kd.R_lower ho0 (below_size (by repeat (first | (with_reducible first | exact HB.out | apply below_alloc | apply pw_below_drewN | apply below_drew1) | exact HB.out)))); have n1_ := Aside0.mk (below_step (by repeat (first | (with_reducible first | exact HB.out | apply below_alloc | apply pw_below_drewN | apply below_drew1) | exact HB.out)) hb); clear HB; have HO207 := n0_; have HB := n1_; clear n0_ n1_; (try clear hb); (try clear hb2); (try clear hk); (try clear hi); (try clear ho0)) | ((with_reducible refine gate_callee (f := 20) rfl ?_); refine goesL_ (some 59) rfl rfl Tryd.func20 (by kernel_rfl) rfl #[.string (strOfNums l0)] rfl (by (try simp only [List.map_toArray, List.map_cons, List.map_nil]); first | done | rfl | (simp only [List.length_drop, List.length_take]; rfl)) ?_; (with_reducible refine (parlanceref04_Units.calls kj29 (strOfNums l0) t208 t209 _ A43.out).mono ?_); rintro e w51 ⟨v210, rfl, ho0, hb⟩; refine ⟨_, rfl, ?_⟩; have n0_ := Aside0.mk (Kd.R_elder' (by (with_reducible repeat (first | apply Kd.R_alloc | apply Kd.R_drewN | apply Kd.R_drew)); exact HO207.out) (Kd.R_base ho0) hb); have n1_ := Aside0.mk (Kd.R_lower (Kd.R_new' ho0 (Kd.R_lt (by (with_reducible repeat (first | apply Kd.R_alloc | apply Kd.R_drewN | apply Kd.R_drew)); exact HO207.out))) (below_size (by repeat (first | (with_reducible first | exact HB.out | apply below_alloc | apply pw_below_drewN | apply below_drew1) | exact HB.out)))); have n2_ := Aside0.mk (below_step (by repeat (first | (with_reducible first | exact HB.out | apply below_alloc | apply pw_below_drewN | apply below_drew1) | exact HB.out)) hb); clear HO207; clear HB; have HO207 := n0_; have HO211 := n1_; have HB := n2_; clear n0_ n1_ n2_; (try clear hb); (try clear hb2); (try clear hk); (try clear hi); (try clear ho0); obtain ⟨Ao52, co52, eo52⟩ := Kd.R_slice HO207.out; subst eo52; obtain ⟨Ao53, co53, eo53⟩ := Kd.R_slice HO211.out; subst eo53) | ((with_reducible refine gate_callee (f := 18) rfl ?_); refine goesL_ (some 64) rfl rfl Tryd.func18 (by kernel_rfl) rfl #[.slice Ao52 t204.length co52, .slice Ao53 t208.length co53] rfl (by (try simp only [List.map_toArray, List.map_cons, List.map_nil]); first | done | rfl | (simp only [List.length_drop, List.length_take]; rfl)) ?_; (with_reducible refine (parlanceref00_SameInts.calls kj29 _ _ t204 _ _ t208 false _ ?side1 ?side2 ?side3 ?side4 A44.out).mono ?_); (case side1 => repeat (first | exact (Kd.R_reads' HO207.out).2.2 | (with_reducible refine Kd.C_alloc ?_ _) | (with_reducible refine Kd.C_drewN ?_ _) | (with_reducible refine Kd.C_drew ?_))); (case side2 => exact (Kd.R_reads' HO207.out).2.1); (case side3 => repeat (first | exact (Kd.R_reads' HO211.out).2.2 | (with_reducible refine Kd.C_alloc ?_ _) | (with_reducible refine Kd.C_drewN ?_ _) | (with_reducible refine Kd.C_drew ?_))); (case side4 => exact (Kd.R_reads' HO211.out).2.1); rintro e w' ⟨rfl, ⟨nd, rfl⟩⟩; refine ⟨_, rfl, ?_⟩))
                    go_ret
                    exact ⟨by first | rfl | (simp [errW_none, errW_some] <;> rfl) | (simp [*, errW_none, errW_some] <;> rfl), by repeat (first | (with_reducible first | exact HB.out | apply below_alloc | apply pw_below_drewN | apply below_drew1) | exact HB.out)⟩
  · replace c3 := Bool.eq_false_iff.mpr c3
    subst c3
    have H1 : (some false) = some r := by rw [if_neg (show ¬ (false = true) by decide)] at H; exact H
    clear H
    have H := H1
    clear H1
    obtain rfl := Option.some.inj H
    go_enter Tryd.func3, Tryd.ntmps3
    go_wp2_with (first | ((with_reducible refine gate_callee (f := 11) rfl ?_); refine goesL_ (some 9) rfl rfl Tryd.func11 (by kernel_rfl) rfl #[] rfl (by (try simp only [List.map_toArray, List.map_cons, List.map_nil]); first | done | rfl | (simp only [List.length_drop, List.length_take]; rfl)) ?_; (with_reducible refine (parlancelaw04_alive.calls k  false _ ?side1 A2.out).mono ?_); (case side1 => exact T8_below HT.out (by repeat (first | (with_reducible first | exact HB.out | apply below_alloc | apply pw_below_drewN | apply below_drew1) | exact HB.out))); rintro e w54 ⟨rfl, hb⟩; refine ⟨_, rfl, ?_⟩; have n0_ := Aside0.mk (below_step (by repeat (first | (with_reducible first | exact HB.out | apply below_alloc | apply pw_below_drewN | apply below_drew1) | exact HB.out)) hb); clear HB; have HB := n0_; clear n0_; (try clear hb); (try clear hb2); (try clear hk); (try clear hi)))
    go_ret
    exact ⟨by first | rfl | (simp [errW_none, errW_some] <;> rfl) | (simp [*, errW_none, errW_some] <;> rfl), by repeat (first | (with_reducible first | exact HB.out | apply below_alloc | apply pw_below_drewN | apply below_drew1) | exact HB.out)⟩

/-- THE ONE PURE STATEMENT of parlancelaw04_UtfTexts: yours. -/
def parlancelaw04_UtfTexts.Pure : Prop := ∀ (l0 : List Int), l0.length ≤ maxLen → l0.length * 1 ≤ 140737488351232 → (∀ x ∈ l0, (Lit.int .u8 x).wf = true) → ∃ k, parlancelaw04_UtfTexts.f k l0 = some true
theorem parlancelaw04_UtfTexts.walk (P : parlancelaw04_UtfTexts.Pure) (a0 : Option Addr) (len0 cap0 : Nat) (z0 : List Int) (w : World) (w0 : (a0 = none ∧ len0 = 0 ∧ cap0 = 0 ∧ z0 = []) ∨ ∃ x, a0 = some x ∧ len0 ≤ cap0 ∧ cap0 ≤ maxLen ∧ z0.length = cap0 ∧ (∀ i, i < z0.length → w.cell? (x.add i) = some (.int .u8 (z0.getD i 0))) ∧ ∀ n ∈ z0, (Lit.int .u8 n).wf = true) (y0 : len0 * 1 ≤ 140737488351232) (hT : T8 w) :
    Calls Tryd.prog 3 #[.slice a0 len0 cap0] w fun e w' => e = .returned (.bool true) ∧ Below w.heap.size w w' := by
  obtain ⟨l0, rfl, hr0, hm0, hw0, hc0⟩ := ReadsInt.ofRowC w0
  obtain ⟨k, h⟩ := P l0 hm0 y0 hw0
  refine (parlancelaw04_UtfTexts.calls k _ _ l0 true w (Kd.C_of_reads (d := (0 : Int)) (h1 := fun _ => rfl) hr0) hc0 hT h).mono ?_
  rintro e w' ⟨rfl, hd⟩
  exact ⟨rfl, hd⟩

/-! ### parlancelaw04_UtfJoined: function 4 -/
def parlancelaw04_UtfJoined.j0 : Nat → ByteArray → ByteArray → List Int → List Int → Bool → Option (Bool)
  | 0, _, _, _, _, _ => none
  | k + 1, x0, x1, x5, x7, x33 => if x33 = true then (some true) else (if x0.size + x1.size ≤ 9223372036854775807 then ((utf_Units.f k (x0 ++ x1)).bind fun bt222 => (if bt222.2 = 0 then (if x5.length + x7.length < 17592186044416 then ((parlanceref00_SameInts.f k bt222.1 (x5 ++ x7)).bind fun t229 => (some t229)) else (none)) else (some false))) else (none))
def parlancelaw04_UtfJoined.f (k : Nat) (a0 : ByteArray) (a1 : ByteArray) : Option (Bool) := (parlancelaw04_alive.f k).bind fun t213 => (if t213 = true then (if (wrap64 ((a0.size : Int) + (a1.size : Int))) > 5000 then (some true) else ((utf_Units.f k a0).bind fun bt214 => ((utf_Units.f k a1).bind fun bt218 => (if bt214.2 = 0 then (parlancelaw04_UtfJoined.j0 k a0 a1 bt214.1 bt218.1 (bt218.2 != 0)) else (parlancelaw04_UtfJoined.j0 k a0 a1 bt214.1 bt218.1 true))))) else (some false))
theorem parlancelaw04_UtfJoined.mono_l : ∀ k, (∀ y0 y1 y2 y3 y4, LeO (parlancelaw04_UtfJoined.j0 k y0 y1 y2 y3 y4) (parlancelaw04_UtfJoined.j0 (k + 1) y0 y1 y2 y3 y4))
  | 0 => fun _ _ _ _ _ r h => by simp [parlancelaw04_UtfJoined.j0] at h
  | k + 1 => by
    have ih0 := parlancelaw04_UtfJoined.mono_l k
    · intro y0 y1 y2 y3 y4
      unfold parlancelaw04_UtfJoined.j0
      repeat' first
      | (with_reducible exact ih0 _ _ _ _ _)
      | (with_reducible exact parlancelaw04_alive.mono _)
      | (with_reducible exact parlanceref00_SameInts.mono _ _ _)
      | (with_reducible exact utf_Units.mono _ _)
      | (with_reducible exact LeO.refl _)
      | (with_reducible exact LeO.none _)
      | (with_reducible refine LeO.ite ?_ ?_)
      | (with_reducible refine LeO.bind ?_ (fun _ => ?_))
      | exact ih0 _ _ _ _ _
      | exact parlancelaw04_alive.mono _
      | exact parlanceref00_SameInts.mono _ _ _
      | exact utf_Units.mono _ _
      | exact LeO.none _
      | refine LeO.ite ?_ ?_
      | refine LeO.bind ?_ (fun _ => ?_)
theorem parlancelaw04_UtfJoined.mono : ∀ a0 a1 k, LeO (parlancelaw04_UtfJoined.f k a0 a1) (parlancelaw04_UtfJoined.f (k + 1) a0 a1) := by
  intro a0 a1 k
  have ih0 := parlancelaw04_UtfJoined.mono_l k
  unfold parlancelaw04_UtfJoined.f
  repeat' first
      | (with_reducible exact ih0 _ _ _ _ _)
      | (with_reducible exact parlancelaw04_alive.mono _)
      | (with_reducible exact parlanceref00_SameInts.mono _ _ _)
      | (with_reducible exact utf_Units.mono _ _)
      | (with_reducible exact LeO.refl _)
      | (with_reducible exact LeO.none _)
      | (with_reducible refine LeO.ite ?_ ?_)
      | (with_reducible refine LeO.bind ?_ (fun _ => ?_))
      | exact ih0 _ _ _ _ _
      | exact parlancelaw04_alive.mono _
      | exact parlanceref00_SameInts.mono _ _ _
      | exact utf_Units.mono _ _
      | exact LeO.none _
      | refine LeO.ite ?_ ?_
      | refine LeO.bind ?_ (fun _ => ?_)
set_option maxHeartbeats 8000000 in
set_option maxRecDepth 100000 in
theorem parlancelaw04_UtfJoined.calls (k : Nat) (a0 : ByteArray) (a1 : ByteArray) (r : Bool) (w : World) (hT : T8 w) (h : parlancelaw04_UtfJoined.f k a0 a1 = some r) :
    Calls Tryd.prog 4 #[.string a0, .string a1] w fun e w' => e = .returned (.bool r) ∧ Below w.heap.size w w' := by
  have HB := Aside0.mk (Below.refl w.heap.size w)
  have HT := Aside0.mk hT
  clear hT
  have H : ((parlancelaw04_alive.f k).bind fun t213 => (if t213 = true then (if (wrap64 ((a0.size : Int) + (a1.size : Int))) > 5000 then (some true) else ((utf_Units.f k a0).bind fun bt214 => ((utf_Units.f k a1).bind fun bt218 => (if bt214.2 = 0 then (parlancelaw04_UtfJoined.j0 k a0 a1 bt214.1 bt218.1 (bt218.2 != 0)) else (parlancelaw04_UtfJoined.j0 k a0 a1 bt214.1 bt218.1 true))))) else (some false))) = some r := h
  clear h
  replace H := Option.bind_eq_some_iff.mp H
  obtain ⟨t213, A30, H⟩ := H
  replace H : (if t213 = true then (if (wrap64 ((a0.size : Int) + (a1.size : Int))) > 5000 then (some true) else ((utf_Units.f k a0).bind fun bt214 => ((utf_Units.f k a1).bind fun bt218 => (if bt214.2 = 0 then (parlancelaw04_UtfJoined.j0 k a0 a1 bt214.1 bt218.1 (bt218.2 != 0)) else (parlancelaw04_UtfJoined.j0 k a0 a1 bt214.1 bt218.1 true))))) else (some false)) = some r := H
  have A3 := Aside0.mk A30
  clear A30
  by_cases c4 : t213 = true
  · subst c4
    have H1 : (if (wrap64 ((a0.size : Int) + (a1.size : Int))) > 5000 then (some true) else ((utf_Units.f k a0).bind fun bt214 => ((utf_Units.f k a1).bind fun bt218 => (if bt214.2 = 0 then (parlancelaw04_UtfJoined.j0 k a0 a1 bt214.1 bt218.1 (bt218.2 != 0)) else (parlancelaw04_UtfJoined.j0 k a0 a1 bt214.1 bt218.1 true))))) = some r := by rw [if_pos rfl] at H; exact H
    clear H
    have H := H1
    clear H1
    by_cases c5 : (wrap64 ((a0.size : Int) + (a1.size : Int))) > 5000
    · rw [if_pos c5] at H
      have c5b0 : decide (5000 < (wrap64 ((a0.size : Int) + (a1.size : Int)))) = true := decide_eq_true c5
      clear c5
      obtain rfl := Option.some.inj H
      go_enter Tryd.func4, Tryd.ntmps4
      go_wp2_with (first | ((with_reducible refine gate_callee (f := 11) rfl ?_); refine goesL_ (some 10) rfl rfl Tryd.func11 (by kernel_rfl) rfl #[] rfl (by (try simp only [List.map_toArray, List.map_cons, List.map_nil]); first | done | rfl | (simp only [List.length_drop, List.length_take]; rfl)) ?_; (with_reducible refine (parlancelaw04_alive.calls k  true _ ?side1 A3.out).mono ?_); (case side1 => exact T8_below HT.out (by repeat (first | (with_reducible first | exact HB.out | apply below_alloc | apply pw_below_drewN | apply below_drew1) | exact HB.out))); rintro e w6 ⟨rfl, hb⟩; refine ⟨_, rfl, ?_⟩; have n0_ := Aside0.mk (below_step (by repeat (first | (with_reducible first | exact HB.out | apply below_alloc | apply pw_below_drewN | apply below_drew1) | exact HB.out)) hb); clear HB; have HB := n0_; clear n0_; (try clear hb); (try clear hb2); (try clear hk); (try clear hi)))
      go_ret
      exact ⟨by first | rfl | (simp [errW_none, errW_some] <;> rfl) | (simp [*, errW_none, errW_some] <;> rfl), by repeat (first | (with_reducible first | exact HB.out | apply below_alloc | apply pw_below_drewN | apply below_drew1) | exact HB.out)⟩
    · rw [if_neg c5] at H
      have c5b0 : decide (5000 < (wrap64 ((a0.size : Int) + (a1.size : Int)))) = false := decide_eq_false c5
      clear c5
      replace H := Option.bind_eq_some_iff.mp H
      obtain ⟨⟨t214, t215⟩, A70, H⟩ := H
      replace H : ((utf_Units.f k a1).bind fun bt218 => (if t215 = 0 then (parlancelaw04_UtfJoined.j0 k a0 a1 t214 bt218.1 (bt218.2 != 0)) else (parlancelaw04_UtfJoined.j0 k a0 a1 t214 bt218.1 true))) = some r := H
      have A7 := Aside0.mk A70
      clear A70
      replace H := Option.bind_eq_some_iff.mp H
      obtain ⟨⟨t218, t219⟩, A80, H⟩ := H
      replace H : (if t215 = 0 then (parlancelaw04_UtfJoined.j0 k a0 a1 t214 t218 (t219 != 0)) else (parlancelaw04_UtfJoined.j0 k a0 a1 t214 t218 true)) = some r := H
      have A8 := Aside0.mk A80
      clear A80
      have HC9 := Aside0.mk H
      clear H
      go_enter Tryd.func4, Tryd.ntmps4
      go_upto_region 7 with (first | ((with_reducible refine gate_callee (f := 11) rfl ?_); refine goesL_ (some 10) rfl rfl Tryd.func11 (by kernel_rfl) rfl #[] rfl (by (try simp only [List.map_toArray, List.map_cons, List.map_nil]); first | done | rfl | (simp only [List.length_drop, List.length_take]; rfl)) ?_; (with_reducible refine (parlancelaw04_alive.calls k  true _ ?side1 A3.out).mono ?_); (case side1 => exact T8_below HT.out (by repeat (first | (with_reducible first | exact HB.out | apply below_alloc | apply pw_below_drewN | apply below_drew1) | exact HB.out))); rintro e w10 ⟨rfl, hb⟩; refine ⟨_, rfl, ?_⟩; have n0_ := Aside0.mk (below_step (by repeat (first | (with_reducible first | exact HB.out | apply below_alloc | apply pw_below_drewN | apply below_drew1) | exact HB.out)) hb); clear HB; have HB := n0_; clear n0_; (try clear hb); (try clear hb2); (try clear hk); (try clear hi)) | ((with_reducible refine gate_callee (f := 19) rfl ?_); refine goesL_ (some 20) rfl rfl Tryd.func19 (by kernel_rfl) rfl #[.string a0] rfl (by (try simp only [List.map_toArray, List.map_cons, List.map_nil]); first | done | rfl | (simp only [List.length_drop, List.length_take]; rfl)) ?_; (with_reducible refine (utf_Units.calls k a0 t214 t215 _ ?side1 A7.out).mono ?_); (case side1 => exact T8_below HT.out (by repeat (first | (with_reducible first | exact HB.out | apply below_alloc | apply pw_below_drewN | apply below_drew1) | exact HB.out))); rintro e w11 ⟨v216, rfl, ho0, hb⟩; refine ⟨_, rfl, ?_⟩; have n0_ := Aside0.mk (Kd.R_lower ho0 (below_size (by repeat (first | (with_reducible first | exact HB.out | apply below_alloc | apply pw_below_drewN | apply below_drew1) | exact HB.out)))); have n1_ := Aside0.mk (below_step (by repeat (first | (with_reducible first | exact HB.out | apply below_alloc | apply pw_below_drewN | apply below_drew1) | exact HB.out)) hb); clear HB; have HO217 := n0_; have HB := n1_; clear n0_ n1_; (try clear hb); (try clear hb2); (try clear hk); (try clear hi); (try clear ho0)) | ((with_reducible refine gate_callee (f := 19) rfl ?_); refine goesL_ (some 25) rfl rfl Tryd.func19 (by kernel_rfl) rfl #[.string a1] rfl (by (try simp only [List.map_toArray, List.map_cons, List.map_nil]); first | done | rfl | (simp only [List.length_drop, List.length_take]; rfl)) ?_; (with_reducible refine (utf_Units.calls k a1 t218 t219 _ ?side1 A8.out).mono ?_); (case side1 => exact T8_below HT.out (by repeat (first | (with_reducible first | exact HB.out | apply below_alloc | apply pw_below_drewN | apply below_drew1) | exact HB.out))); rintro e w12 ⟨v220, rfl, ho0, hb⟩; refine ⟨_, rfl, ?_⟩; have n0_ := Aside0.mk (Kd.R_elder' (by (with_reducible repeat (first | apply Kd.R_alloc | apply Kd.R_drewN | apply Kd.R_drew)); exact HO217.out) (Kd.R_base ho0) hb); have n1_ := Aside0.mk (Kd.R_lower (Kd.R_new' ho0 (Kd.R_lt (by (with_reducible repeat (first | apply Kd.R_alloc | apply Kd.R_drewN | apply Kd.R_drew)); exact HO217.out))) (below_size (by repeat (first | (with_reducible first | exact HB.out | apply below_alloc | apply pw_below_drewN | apply below_drew1) | exact HB.out)))); have n2_ := Aside0.mk (below_step (by repeat (first | (with_reducible first | exact HB.out | apply below_alloc | apply pw_below_drewN | apply below_drew1) | exact HB.out)) hb); clear HO217; clear HB; have HO217 := n0_; have HO221 := n1_; have HB := n2_; clear n0_ n1_ n2_; (try clear hb); (try clear hb2); (try clear hk); (try clear hi); (try clear ho0)))
      (try simp only [Act.put, List.setIfInBounds_toArray, List.set_cons_zero, List.set_cons_succ])
      go_cut [33] (fun v33 wc => ∃ (kq : Nat) (x33_8 : Bool), v33 = .bool x33_8 ∧ Aside0 (parlancelaw04_UtfJoined.j0 kq a0 a1 t214 t218 x33_8 = some r) ∧ Aside0 (kq ≤ k) ∧ Aside0 (Kd.R (Kd.int .i64) 3 wc w.heap.size (fun k_ => some k_ ≠ (v220 : Value).ownBlock) v216 t214) ∧ Aside0 (Kd.R (Kd.int .i64) 3 wc w.heap.size (fun k_ => some k_ ≠ (v216 : Value).ownBlock) v220 t218) ∧ Aside0 (Below w.heap.size w wc))
      case first =>
        have H := HC9.out
        clear HC9
        by_cases c13 : t215 = 0
        · rw [if_pos c13] at H
          have c13b0 : (t215 == 0) = true := beq_iff_eq.mpr c13
          have c13b1 : (t215 != 0) = false := bne_eq_false_iff_eq.mpr c13
          clear c13
          (first | rw [c13b0] | (simp only [i64_w, i32_w]; rw [c13b0]) | skip)
          have H' := Aside0.mk H
          clear H
          go_wp2
          go_meet
          case rel => exact ⟨_, ((t219 != 0)), (by first | rfl | (simp; done) | (simp [*]; done)), H', ⟨by first | omega | exact Nat.le_refl _⟩, ⟨by (with_reducible repeat (first | apply Kd.R_alloc | apply Kd.R_drewN | apply Kd.R_drew)); exact Kd.R_mono HO217.out (fun _ hk => hk.2)⟩, ⟨by (with_reducible repeat (first | apply Kd.R_alloc | apply Kd.R_drewN | apply Kd.R_drew)); exact Kd.R_mono HO221.out (fun _ hk => hk.2)⟩, ⟨by repeat (first | (with_reducible first | exact HB.out | apply below_alloc | apply pw_below_drewN | apply below_drew1) | exact HB.out)⟩⟩
        · rw [if_neg c13] at H
          have c13b0 : (t215 == 0) = false := beq_eq_false_iff_ne.mpr c13
          have c13b1 : (t215 != 0) = true := bne_iff_ne.mpr c13
          (first | rw [c13b0] | (simp only [i64_w, i32_w]; rw [c13b0]) | skip)
          have H' := Aside0.mk H
          clear H
          go_wp2
          go_meet
          case rel => exact ⟨_, (true), (by first | rfl | (simp; done) | (simp [*]; done)), H', ⟨by first | omega | exact Nat.le_refl _⟩, ⟨by (with_reducible repeat (first | apply Kd.R_alloc | apply Kd.R_drewN | apply Kd.R_drew)); exact Kd.R_mono HO217.out (fun _ hk => hk.2)⟩, ⟨by (with_reducible repeat (first | apply Kd.R_alloc | apply Kd.R_drewN | apply Kd.R_drew)); exact Kd.R_mono HO221.out (fun _ hk => hk.2)⟩, ⟨by repeat (first | (with_reducible first | exact HB.out | apply below_alloc | apply pw_below_drewN | apply below_drew1) | exact HB.out)⟩⟩
      case rest =>
        clear HC9
        try clear c1
        try clear p2
        try clear c4
        try clear c5
        try clear c5b0
        try clear p6
        try clear c11
        try clear c13
        try clear c13b0
        try clear c13b1
        obtain ⟨kq, x33_8, rfl, HA, HJ8, HO_5, HO_7, HB⟩ := hcut
        cases kq with
        | zero => exact absurd HA.out (by simp [parlancelaw04_UtfJoined.j0])
        | succ kj8 =>
          have H := HA.out
          clear HA
          simp only [parlancelaw04_UtfJoined.j0] at H
          by_cases c14 : x33_8 = true
          · subst c14
            have H1 : (some true) = some r := by rw [if_pos rfl] at H; exact H
            clear H
            have H := H1
            clear H1
            obtain rfl := Option.some.inj H
            go_wp2
            go_ret
            exact ⟨by first | rfl | (simp [errW_none, errW_some] <;> rfl) | (simp [*, errW_none, errW_some] <;> rfl), by repeat (first | (with_reducible first | exact HB.out | apply below_alloc | apply pw_below_drewN | apply below_drew1) | exact HB.out)⟩
          · replace c14 := Bool.eq_false_iff.mpr c14
            subst c14
            have H1 : (if a0.size + a1.size ≤ 9223372036854775807 then ((utf_Units.f kj8 (a0 ++ a1)).bind fun bt222 => (if bt222.2 = 0 then (if t214.length + t218.length < 17592186044416 then ((parlanceref00_SameInts.f kj8 bt222.1 (t214 ++ t218)).bind fun t229 => (some t229)) else (none)) else (some false))) else (none)) = some r := by rw [if_neg (show ¬ (false = true) by decide)] at H; exact H
            clear H
            have H := H1
            clear H1
            by_cases c15 : a0.size + a1.size ≤ 9223372036854775807
            · rw [if_pos c15] at H
              have c15b0 := eq_true c15
              have c15b1 : decide (a0.size + a1.size ≤ 9223372036854775807) = true := decide_eq_true c15
              try have c15b2 : (9223372036854775807 < a0.size + a1.size) = False := eq_false (Nat.not_lt.2 c15)
              replace H := Option.bind_eq_some_iff.mp H
              obtain ⟨⟨t222, t223⟩, A160, H⟩ := H
              replace H : (if t223 = 0 then (if t214.length + t218.length < 17592186044416 then ((parlanceref00_SameInts.f kj8 t222 (t214 ++ t218)).bind fun t229 => (some t229)) else (none)) else (some false)) = some r := H
              have A16 := Aside0.mk A160
              clear A160
              by_cases c17 : t223 = 0
              · rw [if_pos c17] at H
                have c17b0 : (t223 == 0) = true := beq_iff_eq.mpr c17
                have c17b1 : (t223 != 0) = false := bne_eq_false_iff_eq.mpr c17
                clear c17
                by_cases c18 : t214.length + t218.length < 17592186044416
                · rw [if_pos c18] at H
                  have LMc18 := Aside0.mk c18
                  clear c18
                  obtain ⟨y226, hy226⟩ : ∃ y_ : List Int, y_ = (t214 ++ t218) := ⟨_, rfl⟩
                  replace H : ((parlanceref00_SameInts.f kj8 t222 y226).bind fun t229 => (some t229)) = some r := by first | (rw [hy226]; with_reducible exact H) | (have H2_ := (Option.bind_some _ _).symm.trans H; rw [hy226]; with_reducible exact H2_) | (have H2_ := (Option.bind_some _ _).symm.trans H; with_reducible exact H2_) | with_reducible exact H | (rw [hy226]; exact H) | exact H
                  have Ny226 := Aside0.mk hy226
                  clear hy226
                  replace H := Option.bind_eq_some_iff.mp H
                  obtain ⟨t229, A190, H⟩ := H
                  replace H : (some t229) = some r := H
                  have A19 := Aside0.mk A190
                  clear A190
                  obtain rfl := Option.some.inj H
                  go_wp2_with (first | ((with_reducible refine gate_callee (f := 19) rfl ?_); refine goesL_ (some 38) rfl rfl Tryd.func19 (by kernel_rfl) rfl #[.string (a0 ++ a1)] rfl (by (try simp only [List.map_toArray, List.map_cons, List.map_nil]); first | done | rfl | (simp only [List.length_drop, List.length_take]; rfl)) ?_; (with_reducible refine (utf_Units.calls kj8 (a0 ++ a1) t222 t223 _ ?side1 A16.out).mono ?_); (case side1 => exact T8_below HT.out (by repeat (first | (with_reducible first | exact HB.out | apply below_alloc | apply pw_below_drewN | apply below_drew1) | exact HB.out))); rintro e w20 ⟨v224, rfl, ho0, hb⟩; refine ⟨_, rfl, ?_⟩; have n0_ := Aside0.mk (Kd.R_elder' (by (with_reducible repeat (first | apply Kd.R_alloc | apply Kd.R_drewN | apply Kd.R_drew)); exact HO_5.out) (Kd.R_base ho0) hb); have n1_ := Aside0.mk (Kd.R_elder' (by (with_reducible repeat (first | apply Kd.R_alloc | apply Kd.R_drewN | apply Kd.R_drew)); exact HO_7.out) (Kd.R_base ho0) hb); have n2_ := Aside0.mk (Kd.R_lower (Kd.R_new' (Kd.R_new' ho0 (Kd.R_lt (by (with_reducible repeat (first | apply Kd.R_alloc | apply Kd.R_drewN | apply Kd.R_drew)); exact HO_5.out))) (Kd.R_lt (by (with_reducible repeat (first | apply Kd.R_alloc | apply Kd.R_drewN | apply Kd.R_drew)); exact HO_7.out))) (below_size (by repeat (first | (with_reducible first | exact HB.out | apply below_alloc | apply pw_below_drewN | apply below_drew1) | exact HB.out)))); have n3_ := Aside0.mk (below_step (by repeat (first | (with_reducible first | exact HB.out | apply below_alloc | apply pw_below_drewN | apply below_drew1) | exact HB.out)) hb); clear HO_5; clear HO_7; clear HB; have HO_5 := n0_; have HO_7 := n1_; have HO225 := n2_; have HB := n3_; clear n0_ n1_ n2_ n3_; (try clear hb); (try clear hb2); (try clear hk); (try clear hi); (try clear ho0); obtain ⟨Ao22, co22, eo22⟩ := Kd.R_slice HO_7.out; subst eo22) | ((with_reducible refine gate_builtin (b := .append) (xs := #[.tmp 45, .tmp 46]) rfl ?_); (try (refine gate_guard (by rfl) ?_; dsimp only)); at_builtin; refine Kd.R_append_rows (Kd.int .i64) (w0 := w) w.heap.size rfl (.tmp 45) (.tmp 46) 27 3 (.int .i64 0) 8 rfl Tryd.underlying27 info3 rfl (by decide) (by omega) v216 t214 t218 _ _ _ (fun k_ => some k_ ≠ (.slice Ao22 t218.length co22 : Value).ownBlock ∧ some k_ ≠ (v224 : Value).ownBlock) (fun _ => False) rfl rfl ?aO ?aR (fun _ _ h => h) (fun _ h => h.elim) ?aF ?aB ?aS ?aL ?_; (case aR => repeat (first | exact (Kd.R_reads' HO_7.out).2.2 | (with_reducible refine Kd.C_alloc ?_ _) | (with_reducible refine Kd.C_drewN ?_ _) | (with_reducible refine Kd.C_drew ?_))); (case aB => exact (by repeat (first | (with_reducible first | exact HB.out | apply below_alloc | apply pw_below_drewN | apply below_drew1) | exact HB.out))); (case aF => exact (fun k_ hk => ⟨Kd.fresh' (Kd.R_lt (by (with_reducible repeat (first | apply Kd.R_alloc | apply Kd.R_drewN | apply Kd.R_drew)); exact HO_7.out)) k_ hk, Kd.fresh' (Kd.R_lt (by (with_reducible repeat (first | apply Kd.R_alloc | apply Kd.R_drewN | apply Kd.R_drew)); exact HO225.out)) k_ hk⟩)); (case aO => exact (by (with_reducible repeat (first | apply Kd.R_alloc | apply Kd.R_drewN | apply Kd.R_drew)); exact HO_5.out)); (case aS => exact (below_size (by repeat (first | (with_reducible first | exact HB.out | apply below_alloc | apply pw_below_drewN | apply below_drew1) | exact HB.out)))); (case aL => have := LMc18.out; omega); intro v227 w21 ho hb hg hat; rw [← Ny226.out] at ho; have n0_ := Aside0.mk (Kd.R_after (ok := (fun k_ => some k_ ≠ (v224 : Value).ownBlock)) (by (with_reducible repeat (first | apply Kd.R_alloc | apply Kd.R_drewN | apply Kd.R_drew)); exact Kd.R_mono HO_7.out (fun _ hk => ⟨hk.2, hk.1⟩)) hg hat); have n1_ := Aside0.mk (Kd.R_after (ok := (fun k_ => some k_ ≠ (.slice Ao22 t218.length co22 : Value).ownBlock)) (by (with_reducible repeat (first | apply Kd.R_alloc | apply Kd.R_drewN | apply Kd.R_drew)); exact Kd.R_mono HO225.out (fun _ hk => ⟨hk.2, hk.1.2⟩)) hg hat); have n2_ := Aside0.mk (hb); have n3_ := Aside0.mk (ho); clear HO_7; clear HO225; clear HB; clear HO_5; have HO_7 := n0_; have HO225 := n1_; have HB := n2_; have HO228 := n3_; clear n0_ n1_ n2_ n3_; clear ho hb hg hat; obtain ⟨Ao23, co23, eo23⟩ := Kd.R_slice HO225.out; subst eo23; obtain ⟨Ao24, co24, eo24⟩ := Kd.R_slice HO228.out; subst eo24) | (go_at_call 18; (with_reducible refine (parlanceref00_SameInts.calls kj8 _ _ t222 _ _ y226 t229 _ ?side1 ?side2 ?side3 ?side4 A19.out).mono ?_); (case side1 => repeat (first | exact (Kd.R_reads' HO225.out).2.2 | (with_reducible refine Kd.C_alloc ?_ _) | (with_reducible refine Kd.C_drewN ?_ _) | (with_reducible refine Kd.C_drew ?_))); (case side2 => exact (Kd.R_reads' HO225.out).2.1); (case side3 => repeat (first | exact (Kd.R_reads' HO228.out).2.2 | (with_reducible refine Kd.C_alloc ?_ _) | (with_reducible refine Kd.C_drewN ?_ _) | (with_reducible refine Kd.C_drew ?_))); (case side4 => exact (Kd.R_reads' HO228.out).2.1); rintro e w' ⟨rfl, ⟨nd, rfl⟩⟩))
                  go_ret
                  exact ⟨by first | rfl | (simp [errW_none, errW_some] <;> rfl) | (simp [*, errW_none, errW_some] <;> rfl), by repeat (first | (with_reducible first | exact HB.out | apply below_alloc | apply pw_below_drewN | apply below_drew1) | exact HB.out)⟩
                · rw [if_neg c18] at H
                  exact absurd H (by simp)
              · rw [if_neg c17] at H
                have c17b0 : (t223 == 0) = false := beq_eq_false_iff_ne.mpr c17
                have c17b1 : (t223 != 0) = true := bne_iff_ne.mpr c17
                obtain rfl := Option.some.inj H
                go_wp2_with (first | ((with_reducible refine gate_callee (f := 19) rfl ?_); refine goesL_ (some 38) rfl rfl Tryd.func19 (by kernel_rfl) rfl #[.string (a0 ++ a1)] rfl (by (try simp only [List.map_toArray, List.map_cons, List.map_nil]); first | done | rfl | (simp only [List.length_drop, List.length_take]; rfl)) ?_; (with_reducible refine (utf_Units.calls kj8 (a0 ++ a1) t222 t223 _ ?side1 A16.out).mono ?_); (case side1 => exact T8_below HT.out (by repeat (first | (with_reducible first | exact HB.out | apply below_alloc | apply pw_below_drewN | apply below_drew1) | exact HB.out))); rintro e w25 ⟨v224, rfl, ho0, hb⟩; refine ⟨_, rfl, ?_⟩; have n0_ := Aside0.mk (Kd.R_elder' (by (with_reducible repeat (first | apply Kd.R_alloc | apply Kd.R_drewN | apply Kd.R_drew)); exact HO_5.out) (Kd.R_base ho0) hb); have n1_ := Aside0.mk (Kd.R_elder' (by (with_reducible repeat (first | apply Kd.R_alloc | apply Kd.R_drewN | apply Kd.R_drew)); exact HO_7.out) (Kd.R_base ho0) hb); have n2_ := Aside0.mk (Kd.R_lower (Kd.R_new' (Kd.R_new' ho0 (Kd.R_lt (by (with_reducible repeat (first | apply Kd.R_alloc | apply Kd.R_drewN | apply Kd.R_drew)); exact HO_5.out))) (Kd.R_lt (by (with_reducible repeat (first | apply Kd.R_alloc | apply Kd.R_drewN | apply Kd.R_drew)); exact HO_7.out))) (below_size (by repeat (first | (with_reducible first | exact HB.out | apply below_alloc | apply pw_below_drewN | apply below_drew1) | exact HB.out)))); have n3_ := Aside0.mk (below_step (by repeat (first | (with_reducible first | exact HB.out | apply below_alloc | apply pw_below_drewN | apply below_drew1) | exact HB.out)) hb); clear HO_5; clear HO_7; clear HB; have HO_5 := n0_; have HO_7 := n1_; have HO225 := n2_; have HB := n3_; clear n0_ n1_ n2_ n3_; (try clear hb); (try clear hb2); (try clear hk); (try clear hi); (try clear ho0)))
                go_ret
                exact ⟨by first | rfl | (simp [errW_none, errW_some] <;> rfl) | (simp [*, errW_none, errW_some] <;> rfl), by repeat (first | (with_reducible first | exact HB.out | apply below_alloc | apply pw_below_drewN | apply below_drew1) | exact HB.out)⟩
            · rw [if_neg c15] at H
              exact absurd H (by simp)
  · replace c4 := Bool.eq_false_iff.mpr c4
    subst c4
    have H1 : (some false) = some r := by rw [if_neg (show ¬ (false = true) by decide)] at H; exact H
    clear H
    have H := H1
    clear H1
    obtain rfl := Option.some.inj H
    go_enter Tryd.func4, Tryd.ntmps4
    go_wp2_with (first | ((with_reducible refine gate_callee (f := 11) rfl ?_); refine goesL_ (some 10) rfl rfl Tryd.func11 (by kernel_rfl) rfl #[] rfl (by (try simp only [List.map_toArray, List.map_cons, List.map_nil]); first | done | rfl | (simp only [List.length_drop, List.length_take]; rfl)) ?_; (with_reducible refine (parlancelaw04_alive.calls k  false _ ?side1 A3.out).mono ?_); (case side1 => exact T8_below HT.out (by repeat (first | (with_reducible first | exact HB.out | apply below_alloc | apply pw_below_drewN | apply below_drew1) | exact HB.out))); rintro e w26 ⟨rfl, hb⟩; refine ⟨_, rfl, ?_⟩; have n0_ := Aside0.mk (below_step (by repeat (first | (with_reducible first | exact HB.out | apply below_alloc | apply pw_below_drewN | apply below_drew1) | exact HB.out)) hb); clear HB; have HB := n0_; clear n0_; (try clear hb); (try clear hb2); (try clear hk); (try clear hi)))
    go_ret
    exact ⟨by first | rfl | (simp [errW_none, errW_some] <;> rfl) | (simp [*, errW_none, errW_some] <;> rfl), by repeat (first | (with_reducible first | exact HB.out | apply below_alloc | apply pw_below_drewN | apply below_drew1) | exact HB.out)⟩

/-- THE ONE PURE STATEMENT of parlancelaw04_UtfJoined: yours. -/
def parlancelaw04_UtfJoined.Pure : Prop := ∀ (a0 : ByteArray) (a1 : ByteArray), a0.size ≤ 140737488351232 → a1.size ≤ 140737488351232 → ∃ k, parlancelaw04_UtfJoined.f k a0 a1 = some true
theorem parlancelaw04_UtfJoined.walk (P : parlancelaw04_UtfJoined.Pure) (a0 : ByteArray) (a1 : ByteArray) (w : World) (w0 : a0.size ≤ 140737488351232) (w1 : a1.size ≤ 140737488351232) (hT : T8 w) :
    Calls Tryd.prog 4 #[.string a0, .string a1] w fun e w' => e = .returned (.bool true) ∧ Below w.heap.size w w' := by
  obtain ⟨k, h⟩ := P a0 a1 w0 w1
  refine (parlancelaw04_UtfJoined.calls k a0 a1 true w hT h).mono ?_
  rintro e w' ⟨rfl, hd⟩
  exact ⟨rfl, hd⟩

end Go.Proofs.YtflfkbnolehpgaaDoor.PUtf
