-- Printed by a program of this session (wip/printx.py) out of the translation. Not trusted: Lean checks it.
import Derived.Test.YtjffpcjbbehooaaDoorPAppx0
import Derived.Test.YtjffpcjbbehooaaDoorPAppx1
namespace Go.Proofs.YtjffpcjbbehooaaDoor.PApp
open Go.RowKit Go.Proofs.YtjffpcjbbehooaaDoor.G Go.Proofs.YtjffpcjbbehooaaDoor.PUA Go.Proofs.YtjffpcjbbehooaaDoor.PFn Go.Proofs.YtjffpcjbbehooaaDoor.PRef Go.Proofs.YtjffpcjbbehooaaDoor.PEd Go.Proofs.YtjffpcjbbehooaaDoorW.PrintWords Go.Proofs.YtjffpcjbbehooaaDoorW.PrintLast Go.Proofs.YtjffpcjbbehooaaDoorW.PrintMore
attribute [local go_sem] max2_int min2_int max_two min_two max_three min_three max_four min_four   -- for this text's walks alone
set_option linter.unusedVariables false
set_option linter.unusedSimpArgs false

attribute [local go_sem high] eqA31
-- GIVEN: function 11 (parlance/parlancelaw07.alive): parlancelaw07_alive

-- GIVEN: function 12 (parlance/parlancelaw07.great): parlancelaw07_great

-- GIVEN: function 13 (parlance/parlanceref00.CopyEdits): parlanceref00_CopyEdits

-- GIVEN: function 14 (parlance/text.Apply): text_Apply

-- GIVEN: function 19 (parlance/parlanceref07.Offset): parlanceref07_Offset

-- GIVEN: function 27 (parlance/parlanceref04.Valid): parlanceref04_Valid

/-! ### parlanceref07_Apply: function 15 -/
mutual
def parlanceref07_Apply.l0 : Nat → ByteArray → List (S31) → Int → Option (ByteArray × Int)
  | 0, _, _, _ => none
  | k + 1, x0, x1, x6 => if x6 < (x1.length : Int) then (if 0 ≤ x6 then (if ((rd_T31 x1 x6).f4).size ≤ 9223372036854775807 then ((parlanceref04_Valid.f k (bytesOf ((rd_T31 x1 x6).f4))).bind fun t112 => (if t112 < (((rd_T31 x1 x6).f4).size : Int) then (some ((⟨#[]⟩ : ByteArray), 40)) else ((parlanceref07_Offset.f k x0 ((rd_T31 x1 x6).f0) ((rd_T31 x1 x6).f1)).bind fun bt113 => ((parlanceref07_Offset.f k x0 ((rd_T31 x1 x6).f2) ((rd_T31 x1 x6).f3)).bind fun bt115 => (if bt113.2 = 0 then (parlanceref07_Apply.j1 k x0 x1 x6 bt113.1 bt115.1 (bt115.2 != 0) ((rd_T31 x1 x6).f0) ((rd_T31 x1 x6).f1) ((rd_T31 x1 x6).f2) ((rd_T31 x1 x6).f3) ((rd_T31 x1 x6).f4)) else (parlanceref07_Apply.j1 k x0 x1 x6 bt113.1 bt115.1 true ((rd_T31 x1 x6).f0) ((rd_T31 x1 x6).f1) ((rd_T31 x1 x6).f2) ((rd_T31 x1 x6).f3) ((rd_T31 x1 x6).f4))))))) else (none)) else (none)) else (some (x0, 0))
def parlanceref07_Apply.j1 : Nat → ByteArray → List (S31) → Int → Int → Int → Bool → Int → Int → Int → Int → ByteArray → Option (ByteArray × Int)
  | 0, _, _, _, _, _, _, _, _, _, _, _ => none
  | k + 1, x0, x1, x6, x8, x10, x59, x108000, x108001, x108002, x108003, x108004 => if x59 = true then (some ((⟨#[]⟩ : ByteArray), 70)) else (if x10 < x8 then (some ((⟨#[]⟩ : ByteArray), 71)) else (if 0 ≤ x8 then (if x8 ≤ (x0.size : Int) then (if (x8 : Int).toNat + x108004.size ≤ 9223372036854775807 then (if 0 ≤ x10 then (if x10 ≤ (x0.size : Int) then (if (x8 : Int).toNat + x108004.size + (x0.size - (x10 : Int).toNat) ≤ 9223372036854775807 then (if (x8 + (x108004.size : Int) + ((x0.size - (x10 : Int).toNat : Nat) : Int)) > 32768 then (some ((⟨#[]⟩ : ByteArray), 52)) else (parlanceref07_Apply.l0 k (((x0.extract 0 (x8 : Int).toNat) ++ x108004) ++ (x0.extract (x10 : Int).toNat x0.size)) x1 (wrap64 (x6 + 1)))) else (none)) else (none)) else (none)) else (none)) else (none)) else (none)))
end
def parlanceref07_Apply.f (k : Nat) (a0 : ByteArray) (l1 : List (S31)) : Option (ByteArray × Int) := if a0.size ≤ 9223372036854775807 then ((parlanceref04_Valid.f k (bytesOf a0)).bind fun t105 => (if t105 < (a0.size : Int) then (some ((⟨#[]⟩ : ByteArray), 40)) else (parlanceref07_Apply.l0 k a0 l1 0))) else (none)
theorem parlanceref07_Apply.mono_l : ∀ k, (∀ y0 y1 y2, LeO (parlanceref07_Apply.l0 k y0 y1 y2) (parlanceref07_Apply.l0 (k + 1) y0 y1 y2)) ∧ (∀ y0 y1 y2 y3 y4 y5 y6 y7 y8 y9 y10, LeO (parlanceref07_Apply.j1 k y0 y1 y2 y3 y4 y5 y6 y7 y8 y9 y10) (parlanceref07_Apply.j1 (k + 1) y0 y1 y2 y3 y4 y5 y6 y7 y8 y9 y10))
  | 0 => ⟨fun _ _ _ r h => by simp [parlanceref07_Apply.l0] at h, fun _ _ _ _ _ _ _ _ _ _ _ r h => by simp [parlanceref07_Apply.j1] at h⟩
  | k + 1 => by
    obtain ⟨ih0, ih1⟩ := parlanceref07_Apply.mono_l k
    refine ⟨?_, ?_⟩
    · intro y0 y1 y2
      unfold parlanceref07_Apply.l0
      repeat' first
      | (with_reducible exact ih0 _ _ _)
      | (with_reducible exact ih1 _ _ _ _ _ _ _ _ _ _ _)
      | (with_reducible exact parlanceref04_Valid.mono _ _)
      | (with_reducible exact parlanceref07_Offset.mono _ _ _ _)
      | (with_reducible exact LeO.refl _)
      | (with_reducible exact LeO.none _)
      | (with_reducible refine LeO.ite ?_ ?_)
      | (with_reducible refine LeO.bind ?_ (fun _ => ?_))
      | exact ih0 _ _ _
      | exact ih1 _ _ _ _ _ _ _ _ _ _ _
      | exact parlanceref04_Valid.mono _ _
      | exact parlanceref07_Offset.mono _ _ _ _
      | exact LeO.none _
      | refine LeO.ite ?_ ?_
      | refine LeO.bind ?_ (fun _ => ?_)
    · intro y0 y1 y2 y3 y4 y5 y6 y7 y8 y9 y10
      unfold parlanceref07_Apply.j1
      repeat' first
      | (with_reducible exact ih0 _ _ _)
      | (with_reducible exact ih1 _ _ _ _ _ _ _ _ _ _ _)
      | (with_reducible exact parlanceref04_Valid.mono _ _)
      | (with_reducible exact parlanceref07_Offset.mono _ _ _ _)
      | (with_reducible exact LeO.refl _)
      | (with_reducible exact LeO.none _)
      | (with_reducible refine LeO.ite ?_ ?_)
      | (with_reducible refine LeO.bind ?_ (fun _ => ?_))
      | exact ih0 _ _ _
      | exact ih1 _ _ _ _ _ _ _ _ _ _ _
      | exact parlanceref04_Valid.mono _ _
      | exact parlanceref07_Offset.mono _ _ _ _
      | exact LeO.none _
      | refine LeO.ite ?_ ?_
      | refine LeO.bind ?_ (fun _ => ?_)
theorem parlanceref07_Apply.mono : ∀ a0 a1 k, LeO (parlanceref07_Apply.f k a0 a1) (parlanceref07_Apply.f (k + 1) a0 a1) := by
  intro a0 a1 k
  obtain ⟨ih0, ih1⟩ := parlanceref07_Apply.mono_l k
  unfold parlanceref07_Apply.f
  repeat' first
      | (with_reducible exact ih0 _ _ _)
      | (with_reducible exact ih1 _ _ _ _ _ _ _ _ _ _ _)
      | (with_reducible exact parlanceref04_Valid.mono _ _)
      | (with_reducible exact parlanceref07_Offset.mono _ _ _ _)
      | (with_reducible exact LeO.refl _)
      | (with_reducible exact LeO.none _)
      | (with_reducible refine LeO.ite ?_ ?_)
      | (with_reducible refine LeO.bind ?_ (fun _ => ?_))
      | exact ih0 _ _ _
      | exact ih1 _ _ _ _ _ _ _ _ _ _ _
      | exact parlanceref04_Valid.mono _ _
      | exact parlanceref07_Offset.mono _ _ _ _
      | exact LeO.none _
      | refine LeO.ite ?_ ?_
      | refine LeO.bind ?_ (fun _ => ?_)
def parlanceref07_Apply.T7 : Bool × List (List Nat × List Nat) := (true, [([], []), ([0], [0]), ([1], [1]), ([2], [2]), ([], []), ([4], [4]), ([5], [5]), ([3, 6], [3, 6])])
def parlanceref07_Apply.B7 : List Nat := [0, 1, 3, 7, 0, 16, 48, 127]
theorem parlanceref07_Apply.tab7 : rtab .any (opsOf Tryd.f15 7) = parlanceref07_Apply.T7 := by kernel_rfl
theorem parlanceref07_Apply.bits7 : waitsOk parlanceref07_Apply.T7.2 parlanceref07_Apply.B7 = true := by kernel_rfl
def parlanceref07_Apply.T15 : Bool × List (List Nat × List Nat) := (true, [([], []), ([], []), ([0, 1], [0, 1]), ([], []), ([3], [3]), ([2, 4], [2, 4]), ([], []), ([], []), ([6, 7], [6, 7]), ([5, 8], [5, 8]), ([9, 0, 1, 2, 3, 4, 5, 6, 7, 8, 9], [0, 6, 9])])
def parlanceref07_Apply.B15 : List Nat := [0, 0, 3, 0, 8, 31, 0, 0, 192, 511, 1023]
theorem parlanceref07_Apply.tab15 : rtab .any (opsOf Tryd.f15 15) = parlanceref07_Apply.T15 := by kernel_rfl
theorem parlanceref07_Apply.bits15 : waitsOk parlanceref07_Apply.T15.2 parlanceref07_Apply.B15 = true := by kernel_rfl
set_option maxHeartbeats 8000000 in
set_option maxRecDepth 100000 in
theorem parlanceref07_Apply.calls (k : Nat) (a0 : ByteArray) (A1 : Option Addr) (c1 : Nat) (l1 : List (S31)) (r1 : ByteArray) (r2 : Int) (w : World) (hr1 : Kd.C k31 w A1 l1.length l1) (hc1 : l1.length ≤ c1) (h : parlanceref07_Apply.f k a0 l1 = some (r1, r2)) :
    Calls Tryd.prog 15 #[.string a0, .slice A1 l1.length c1] w fun e w' => e = .returned (.tuple #[.string r1, .int .i64 r2]) ∧ Below w.heap.size w w' := by
  have hu31 := Tryd.underlying31
  have HR1 := Aside0.mk hr1
  have HC1 := Aside0.mk hc1
  clear hr1 hc1
  have HB := Aside0.mk (Below.refl w.heap.size w)
  have H : (if a0.size ≤ 9223372036854775807 then ((parlanceref04_Valid.f k (bytesOf a0)).bind fun t105 => (if t105 < (a0.size : Int) then (some ((⟨#[]⟩ : ByteArray), 40)) else (parlanceref07_Apply.l0 k a0 l1 0))) else (none)) = some (r1, r2) := h
  clear h
  by_cases c3 : a0.size ≤ 9223372036854775807
  · rw [if_pos c3] at H
    have LMc3 := Aside0.mk c3
    clear c3
    obtain ⟨y101, hy101⟩ : ∃ y_ : List Int, y_ = (bytesOf a0) := ⟨_, rfl⟩
    replace H : ((parlanceref04_Valid.f k y101).bind fun t105 => (if t105 < (a0.size : Int) then (some ((⟨#[]⟩ : ByteArray), 40)) else (parlanceref07_Apply.l0 k a0 l1 0))) = some (r1, r2) := by first | (rw [hy101]; with_reducible exact H) | (have H2_ := (Option.bind_some _ _).symm.trans H; rw [hy101]; with_reducible exact H2_) | (have H2_ := (Option.bind_some _ _).symm.trans H; with_reducible exact H2_) | with_reducible exact H | (rw [hy101]; exact H) | exact H
    have Ny101 := Aside0.mk hy101
    clear hy101
    replace H := Option.bind_eq_some_iff.mp H
    obtain ⟨t105, A40, H⟩ := H
    replace H : (if t105 < (a0.size : Int) then (some ((⟨#[]⟩ : ByteArray), 40)) else (parlanceref07_Apply.l0 k a0 l1 0)) = some (r1, r2) := H
    have A4 := Aside0.mk A40
    clear A40
    by_cases c5 : t105 < (a0.size : Int)
    · rw [if_pos c5] at H
      have c5b0 : decide (t105 < (a0.size : Int)) = true := decide_eq_true c5
      clear c5
      simp only [Option.some.injEq, Prod.mk.injEq] at H
      obtain ⟨rfl, rfl⟩ := H
      go_enter Tryd.func15, Tryd.ntmps15
      go_wp2_with (first | ((with_reducible refine gate_dst (N := 13) rfl ?_); refine conv_event 9 46 rfl (N := 13) rfl _ rfl rfl Tryd.underlying9 Tryd.underlying46 Tryd.underlying5 LMc3.out (y := y101) Ny101.out ?_; intro A104 c104 w6 hr_ hc_ hb; have n0_ := Aside0.mk (below_step (by repeat (first | (with_reducible first | exact HB.out | apply below_alloc | apply pw_below_drewN | apply below_drew1) | exact HB.out)) hb); have n1_ := Aside0.mk (hr_); have n2_ := Aside0.mk (hc_); clear HB; have HB := n0_; have HR104 := n1_; have HC104 := n2_; clear n0_ n1_ n2_; clear hb hr_ hc_) | ((with_reducible refine gate_callee (f := 27) rfl ?_); refine goesL_ (some 14) rfl rfl Tryd.func27 (by kernel_rfl) rfl #[.slice A104 y101.length c104] rfl (by (try simp only [List.map_toArray, List.map_cons, List.map_nil]); first | done | rfl | (simp only [List.length_drop, List.length_take]; rfl)) ?_; (with_reducible refine (parlanceref04_Valid.calls k _ _ y101 t105 _ ?side1 ?side2 A4.out).mono ?_); (case side1 => repeat (first | exact (by repeat (first | (with_reducible exact HR104.out) | (with_reducible refine Kd.C_alloc ?_ _) | (with_reducible refine Kd.C_drewN ?_ _) | (with_reducible refine Kd.C_drew ?_) | exact HR104.out)) | (with_reducible refine Kd.C_alloc ?_ _) | (with_reducible refine Kd.C_drewN ?_ _) | (with_reducible refine Kd.C_drew ?_))); (case side2 => exact HC104.out); rintro e w7 ⟨rfl, hb⟩; refine ⟨_, rfl, ?_⟩; have n0_ := Aside0.mk (Kd.C_below (by repeat (first | (with_reducible exact HR104.out) | (with_reducible refine Kd.C_alloc ?_ _) | (with_reducible refine Kd.C_drewN ?_ _) | (with_reducible refine Kd.C_drew ?_) | exact HR104.out)) hb); have n1_ := Aside0.mk (below_step (by repeat (first | (with_reducible first | exact HB.out | apply below_alloc | apply pw_below_drewN | apply below_drew1) | exact HB.out)) hb); clear HR104; clear HB; have HR104 := n0_; have HB := n1_; clear n0_ n1_; (try clear hb); (try clear hb2); (try clear hk); (try clear hi)))
      go_ret2
      exact ⟨by first | rfl | (simp [errW_none, errW_some] <;> rfl) | (simp [*, errW_none, errW_some] <;> rfl), by repeat (first | (with_reducible first | exact HB.out | apply below_alloc | apply pw_below_drewN | apply below_drew1) | exact HB.out)⟩
    · rw [if_neg c5] at H
      have c5b0 : decide (t105 < (a0.size : Int)) = false := decide_eq_false c5
      clear c5
      have H' := Aside0.mk H
      clear H
      go_enter Tryd.func15, Tryd.ntmps15
      go_wp2_with (first | ((with_reducible refine gate_dst (N := 13) rfl ?_); refine conv_event 9 46 rfl (N := 13) rfl _ rfl rfl Tryd.underlying9 Tryd.underlying46 Tryd.underlying5 LMc3.out (y := y101) Ny101.out ?_; intro A104 c104 w8 hr_ hc_ hb; have n0_ := Aside0.mk (below_step (by repeat (first | (with_reducible first | exact HB.out | apply below_alloc | apply pw_below_drewN | apply below_drew1) | exact HB.out)) hb); have n1_ := Aside0.mk (hr_); have n2_ := Aside0.mk (hc_); clear HB; have HB := n0_; have HR104 := n1_; have HC104 := n2_; clear n0_ n1_ n2_; clear hb hr_ hc_) | ((with_reducible refine gate_callee (f := 27) rfl ?_); refine goesL_ (some 14) rfl rfl Tryd.func27 (by kernel_rfl) rfl #[.slice A104 y101.length c104] rfl (by (try simp only [List.map_toArray, List.map_cons, List.map_nil]); first | done | rfl | (simp only [List.length_drop, List.length_take]; rfl)) ?_; (with_reducible refine (parlanceref04_Valid.calls k _ _ y101 t105 _ ?side1 ?side2 A4.out).mono ?_); (case side1 => repeat (first | exact (by repeat (first | (with_reducible exact HR104.out) | (with_reducible refine Kd.C_alloc ?_ _) | (with_reducible refine Kd.C_drewN ?_ _) | (with_reducible refine Kd.C_drew ?_) | exact HR104.out)) | (with_reducible refine Kd.C_alloc ?_ _) | (with_reducible refine Kd.C_drewN ?_ _) | (with_reducible refine Kd.C_drew ?_))); (case side2 => exact HC104.out); rintro e w9 ⟨rfl, hb⟩; refine ⟨_, rfl, ?_⟩; have n0_ := Aside0.mk (Kd.C_below (by repeat (first | (with_reducible exact HR104.out) | (with_reducible refine Kd.C_alloc ?_ _) | (with_reducible refine Kd.C_drewN ?_ _) | (with_reducible refine Kd.C_drew ?_) | exact HR104.out)) hb); have n1_ := Aside0.mk (below_step (by repeat (first | (with_reducible first | exact HB.out | apply below_alloc | apply pw_below_drewN | apply below_drew1) | exact HB.out)) hb); clear HR104; clear HB; have HR104 := n0_; have HB := n1_; clear n0_ n1_; (try clear hb); (try clear hb2); (try clear hk); (try clear hi)))
      go_loopg [0, 6] k (fun kq v0 v6 w' => ∃ (x0_1 : ByteArray) (x6_1 : Int), v0 = .string x0_1 ∧ v6 = .int .i64 x6_1 ∧ Aside0 (parlanceref07_Apply.l0 kq x0_1 l1 x6_1 = some (r1, r2)) ∧ Aside0 (kq ≤ k) ∧ Aside0 (Below w.heap.size w w'))
      case atStart => exact ⟨(a0), (0), (by first | rfl | (simp; done) | (simp [*]; done)), (by first | rfl | (simp; done) | (simp [*]; done)), H', ⟨Nat.le_refl _⟩, ⟨by repeat (first | (with_reducible first | exact HB.out | apply below_alloc | apply pw_below_drewN | apply below_drew1) | exact HB.out)⟩⟩
      case round =>
        clear H'
        try clear c1
        try clear c2
        try clear p2
        try clear c3
        try clear c5
        try clear c5b0
        obtain ⟨x0_1, x6_1, rfl, rfl, HA, HK1, HB⟩ := hrel
        cases gk with
        | zero => exact absurd HA.out (by simp [parlanceref07_Apply.l0])
        | succ k1 =>
          have H := HA.out
          clear HA
          simp only [parlanceref07_Apply.l0] at H
          by_cases c10 : x6_1 < (l1.length : Int)
          · rw [if_pos c10] at H
            have c10b0 : decide (x6_1 < (l1.length : Int)) = true := decide_eq_true c10
            clear c10
            by_cases c11 : 0 ≤ x6_1
            · rw [if_pos c11] at H
              have c11b0 : decide (0 ≤ x6_1) = true := decide_eq_true c11
              clear c11
              by_cases c12 : ((rd_T31 l1 x6_1).f4).size ≤ 9223372036854775807
              · rw [if_pos c12] at H
                have LMc12 := Aside0.mk c12
                clear c12
                obtain ⟨y108, hy108⟩ : ∃ y_ : List Int, y_ = (bytesOf ((rd_T31 l1 x6_1).f4)) := ⟨_, rfl⟩
                replace H : ((parlanceref04_Valid.f k1 y108).bind fun t112 => (if t112 < (((rd_T31 l1 x6_1).f4).size : Int) then (some ((⟨#[]⟩ : ByteArray), 40)) else ((parlanceref07_Offset.f k1 x0_1 ((rd_T31 l1 x6_1).f0) ((rd_T31 l1 x6_1).f1)).bind fun bt113 => ((parlanceref07_Offset.f k1 x0_1 ((rd_T31 l1 x6_1).f2) ((rd_T31 l1 x6_1).f3)).bind fun bt115 => (if bt113.2 = 0 then (parlanceref07_Apply.j1 k1 x0_1 l1 x6_1 bt113.1 bt115.1 (bt115.2 != 0) ((rd_T31 l1 x6_1).f0) ((rd_T31 l1 x6_1).f1) ((rd_T31 l1 x6_1).f2) ((rd_T31 l1 x6_1).f3) ((rd_T31 l1 x6_1).f4)) else (parlanceref07_Apply.j1 k1 x0_1 l1 x6_1 bt113.1 bt115.1 true ((rd_T31 l1 x6_1).f0) ((rd_T31 l1 x6_1).f1) ((rd_T31 l1 x6_1).f2) ((rd_T31 l1 x6_1).f3) ((rd_T31 l1 x6_1).f4))))))) = some (r1, r2) := by first | (rw [hy108]; with_reducible exact H) | (have H2_ := (Option.bind_some _ _).symm.trans H; rw [hy108]; with_reducible exact H2_) | (have H2_ := (Option.bind_some _ _).symm.trans H; with_reducible exact H2_) | with_reducible exact H | (rw [hy108]; exact H) | exact H
                have Ny108 := Aside0.mk hy108
                clear hy108
                replace H := Option.bind_eq_some_iff.mp H
                obtain ⟨t112, A130, H⟩ := H
                replace H : (if t112 < (((rd_T31 l1 x6_1).f4).size : Int) then (some ((⟨#[]⟩ : ByteArray), 40)) else ((parlanceref07_Offset.f k1 x0_1 ((rd_T31 l1 x6_1).f0) ((rd_T31 l1 x6_1).f1)).bind fun bt113 => ((parlanceref07_Offset.f k1 x0_1 ((rd_T31 l1 x6_1).f2) ((rd_T31 l1 x6_1).f3)).bind fun bt115 => (if bt113.2 = 0 then (parlanceref07_Apply.j1 k1 x0_1 l1 x6_1 bt113.1 bt115.1 (bt115.2 != 0) ((rd_T31 l1 x6_1).f0) ((rd_T31 l1 x6_1).f1) ((rd_T31 l1 x6_1).f2) ((rd_T31 l1 x6_1).f3) ((rd_T31 l1 x6_1).f4)) else (parlanceref07_Apply.j1 k1 x0_1 l1 x6_1 bt113.1 bt115.1 true ((rd_T31 l1 x6_1).f0) ((rd_T31 l1 x6_1).f1) ((rd_T31 l1 x6_1).f2) ((rd_T31 l1 x6_1).f3) ((rd_T31 l1 x6_1).f4)))))) = some (r1, r2) := H
                have A13 := Aside0.mk A130
                clear A130
                by_cases c14 : t112 < (((rd_T31 l1 x6_1).f4).size : Int)
                · rw [if_pos c14] at H
                  have c14b0 : decide (t112 < (((rd_T31 l1 x6_1).f4).size : Int)) = true := decide_eq_true c14
                  clear c14
                  simp only [Option.some.injEq, Prod.mk.injEq] at H
                  obtain ⟨rfl, rfl⟩ := H
                  have p106 : 0 ≤ (x6_1 : Int) := of_decide_eq_true (by first | (with_reducible assumption) | assumption)
                  have q106 : x6_1 < (l1.length : Int) := of_decide_eq_true (by first | (with_reducible assumption) | assumption)
                  obtain ⟨ad106, e106, hx106_0, hx106_1, hx106_2, hx106_3, hx106_4⟩ := at_T31 HR1.out x6_1 p106 q106
                  cases e106
                  replace hx106_0 := (HB.out.cell (World.block_lt_of_cell? w _ hx106_0)).trans hx106_0
                  replace hx106_1 := (HB.out.cell (World.block_lt_of_cell? w _ hx106_1)).trans hx106_1
                  replace hx106_2 := (HB.out.cell (World.block_lt_of_cell? w _ hx106_2)).trans hx106_2
                  replace hx106_3 := (HB.out.cell (World.block_lt_of_cell? w _ hx106_3)).trans hx106_3
                  replace hx106_4 := (HB.out.cell (World.block_lt_of_cell? w _ hx106_4)).trans hx106_4
                  replace p106 := eq_true p106
                  replace q106 := eq_true q106
                  try go_wp2_with (first | ((with_reducible refine gate_dst (N := 7) rfl ?_); refine box_event ?hg (N := 7) ?hd (cs := #[.int .i64 0, .int .i64 0, .int .i64 0, .int .i64 0, .string (⟨#[]⟩ : ByteArray)]) (t := 31) ?hr ?_; (case hd => rfl); (case hg => rfl); (case hr => first | (go_simp; done) | (go_simp; rfl)); intro gb107 hg w15 hbox hb; have n0_ := Aside0.mk (below_step (by repeat (first | (with_reducible first | exact HB.out | apply below_alloc | apply pw_below_drewN | apply below_drew1) | exact HB.out)) hb); have n1_ := Aside0.mk (hbox); have n2_ := Aside0.mk ((by rw [hg]; exact (below_size (by repeat (first | (with_reducible first | exact HB.out | apply below_alloc | apply pw_below_drewN | apply below_drew1) | exact HB.out))) : w.heap.size ≤ gb107)); have n3_ := Aside0.mk ((by rw [hg]; exact (below_size (by repeat (first | (with_reducible first | exact HB.out | apply below_alloc | apply pw_below_drewN | apply below_drew1) | exact HB.out))) : w.heap.size ≤ gb107)); clear HB; have HB := n0_; have BK107 := n1_; have GW107 := n2_; have GE107 := n3_; clear n0_ n1_ n2_ n3_; clear hb hbox hg; have hcz16_0 : w15.cell? ⟨gb107, 0, none⟩ = some (.int .i64 0) := (blk_cell BK107.out 0).trans rfl; have hcz16_1 : w15.cell? ⟨gb107, 1, none⟩ = some (.int .i64 0) := (blk_cell BK107.out 1).trans rfl; have hcz16_2 : w15.cell? ⟨gb107, 2, none⟩ = some (.int .i64 0) := (blk_cell BK107.out 2).trans rfl; have hcz16_3 : w15.cell? ⟨gb107, 3, none⟩ = some (.int .i64 0) := (blk_cell BK107.out 3).trans rfl; have hcz16_4 : w15.cell? ⟨gb107, 4, none⟩ = some (.string (⟨#[]⟩ : ByteArray)) := (blk_cell BK107.out 4).trans rfl; have hfz16_0 := blk_frozen BK107.out 0; have hfz16_1 := blk_frozen BK107.out 1; have hfz16_2 := blk_frozen BK107.out 2; have hfz16_3 := blk_frozen BK107.out 3; have hfz16_4 := blk_frozen BK107.out 4))
                  have n0_ : Aside0 ((((((w15.setCell ⟨gb107, 0, none⟩ (.int .i64 ((rd_T31 l1 x6_1).f0))).setCell ⟨gb107, 1, none⟩ (.int .i64 ((rd_T31 l1 x6_1).f1))).setCell ⟨gb107, 2, none⟩ (.int .i64 ((rd_T31 l1 x6_1).f2))).setCell ⟨gb107, 3, none⟩ (.int .i64 ((rd_T31 l1 x6_1).f3))).setCell ⟨gb107, 4, none⟩ (.string ((rd_T31 l1 x6_1).f4))).heap[gb107]? = some (.cells #[.int .i64 ((rd_T31 l1 x6_1).f0), .int .i64 ((rd_T31 l1 x6_1).f1), .int .i64 ((rd_T31 l1 x6_1).f2), .int .i64 ((rd_T31 l1 x6_1).f3), .string ((rd_T31 l1 x6_1).f4)] 31 (0, 0))) := ⟨by (with_reducible repeat (first | refine blk_drewN ?_ _ | refine blk_drew ?_ | refine blk_alloc ?_ _)); refine blk_put (cs := #[.int .i64 ((rd_T31 l1 x6_1).f0), .int .i64 ((rd_T31 l1 x6_1).f1), .int .i64 ((rd_T31 l1 x6_1).f2), .int .i64 ((rd_T31 l1 x6_1).f3), .string (⟨#[]⟩ : ByteArray)]) ?_ 4 _ rfl; (with_reducible repeat (first | refine blk_drewN ?_ _ | refine blk_drew ?_ | refine blk_alloc ?_ _)); refine blk_put (cs := #[.int .i64 ((rd_T31 l1 x6_1).f0), .int .i64 ((rd_T31 l1 x6_1).f1), .int .i64 ((rd_T31 l1 x6_1).f2), .int .i64 0, .string (⟨#[]⟩ : ByteArray)]) ?_ 3 _ rfl; (with_reducible repeat (first | refine blk_drewN ?_ _ | refine blk_drew ?_ | refine blk_alloc ?_ _)); refine blk_put (cs := #[.int .i64 ((rd_T31 l1 x6_1).f0), .int .i64 ((rd_T31 l1 x6_1).f1), .int .i64 0, .int .i64 0, .string (⟨#[]⟩ : ByteArray)]) ?_ 2 _ rfl; (with_reducible repeat (first | refine blk_drewN ?_ _ | refine blk_drew ?_ | refine blk_alloc ?_ _)); refine blk_put (cs := #[.int .i64 ((rd_T31 l1 x6_1).f0), .int .i64 0, .int .i64 0, .int .i64 0, .string (⟨#[]⟩ : ByteArray)]) ?_ 1 _ rfl; (with_reducible repeat (first | refine blk_drewN ?_ _ | refine blk_drew ?_ | refine blk_alloc ?_ _)); refine blk_put (cs := #[.int .i64 0, .int .i64 0, .int .i64 0, .int .i64 0, .string (⟨#[]⟩ : ByteArray)]) ?_ 0 _ rfl; (with_reducible repeat (first | refine blk_drewN ?_ _ | refine blk_drew ?_ | refine blk_alloc ?_ _)); exact BK107.out⟩
                  have n1_ : Aside0 (Below w.heap.size w (((((w15.setCell ⟨gb107, 0, none⟩ (.int .i64 ((rd_T31 l1 x6_1).f0))).setCell ⟨gb107, 1, none⟩ (.int .i64 ((rd_T31 l1 x6_1).f1))).setCell ⟨gb107, 2, none⟩ (.int .i64 ((rd_T31 l1 x6_1).f2))).setCell ⟨gb107, 3, none⟩ (.int .i64 ((rd_T31 l1 x6_1).f3))).setCell ⟨gb107, 4, none⟩ (.string ((rd_T31 l1 x6_1).f4)))) := ⟨by repeat (first | (with_reducible first | exact HB.out | apply below_alloc | apply pw_below_drewN | apply below_drew1 | refine below_set ?_ GE107.out) | exact HB.out)⟩
                  (try clear BK107)
                  (try clear HB)
                  generalize (((((w15.setCell ⟨gb107, 0, none⟩ (.int .i64 ((rd_T31 l1 x6_1).f0))).setCell ⟨gb107, 1, none⟩ (.int .i64 ((rd_T31 l1 x6_1).f1))).setCell ⟨gb107, 2, none⟩ (.int .i64 ((rd_T31 l1 x6_1).f2))).setCell ⟨gb107, 3, none⟩ (.int .i64 ((rd_T31 l1 x6_1).f3))).setCell ⟨gb107, 4, none⟩ (.string ((rd_T31 l1 x6_1).f4))) = w17 at n0_ n1_ ⊢
                  have BK107 := n0_
                  have HB := n1_
                  clear n0_ n1_
                  have n0_ := Aside0.mk (blk_drew BK107.out)
                  have n1_ := Aside0.mk (below_drew1 HB.out)
                  clear BK107
                  clear HB
                  have BK107 := n0_
                  have HB := n1_
                  clear n0_ n1_
                  refine start_ (n := 8) (S := fun w' => w'.cell? ⟨gb107, 0, none⟩ = some (.int .i64 ((rd_T31 l1 x6_1).f0)) ∧ w'.cell? ⟨gb107, 1, none⟩ = some (.int .i64 ((rd_T31 l1 x6_1).f1)) ∧ w'.cell? ⟨gb107, 2, none⟩ = some (.int .i64 ((rd_T31 l1 x6_1).f2)) ∧ w'.cell? ⟨gb107, 3, none⟩ = some (.int .i64 ((rd_T31 l1 x6_1).f3)) ∧ w'.cell? ⟨gb107, 4, none⟩ = some (.string ((rd_T31 l1 x6_1).f4))) (ds := []) #[false, false, false, false, false, false, false, false] (by kernel_rfl) rfl rfl ⟨(blk_cell BK107.out 0).trans rfl, (blk_cell BK107.out 1).trans rfl, (blk_cell BK107.out 2).trans rfl, (blk_cell BK107.out 3).trans rfl, (blk_cell BK107.out 4).trans rfl⟩ (fun hHeld => ?_); refine with_tabW parlanceref07_Apply.tab7 parlanceref07_Apply.bits7 (fun HT_ HW_ => ?_)
                  generalize w17.drew = w18 at BK107 HB hHeld ⊢
                  refine pure_ (i := 0) (N := some 28) (v := ?_) (a' := ?_) #[true, false, false, false, false, false, false, false] rfl rfl (any_of HT_.out (by kernel_rfl)) (fun _ _ _ h => h) (Or.inl ⟨by rfl, ?_⟩) ?_ ?_
                  rotate_left
                  · intro w'
                    go_simp
                    with_reducible rfl
                  rotate_left
                  · simp only [Act.put, List.setIfInBounds_toArray, List.set_cons_zero, List.set_cons_succ, i64_w, i32_w]
                    rfl
                  refine pure_ (i := 4) (N := some 32) (v := ?_) (a' := ?_) #[true, false, false, false, true, false, false, false] rfl rfl (any_of HT_.out (by kernel_rfl)) (fun _ _ _ h => h) (Or.inl ⟨by rfl, ?_⟩) ?_ ?_
                  rotate_left
                  · intro w'
                    go_simp
                    with_reducible rfl
                  rotate_left
                  · simp only [Act.put, List.setIfInBounds_toArray, List.set_cons_zero, List.set_cons_succ, i64_w, i32_w]
                    rfl
                  refine take_ (i := 1) (N := some 29) (v := ?_) (a' := ?_) #[true, true, false, false, true, false, false, false] rfl rfl (take_ofW HT_.out HW_.out (by kernel_rfl)) (fun _ _ _ h => h) (Or.inl ⟨by rfl, ?_⟩) hHeld ?_ ?_
                  rotate_left
                  · rintro w' ⟨s0, s1, s2, s3, s4⟩
                    go_simp
                    with_reducible rfl
                  rotate_left
                  · simp only [Act.put, List.setIfInBounds_toArray, List.set_cons_zero, List.set_cons_succ, i64_w, i32_w]
                    rfl
                  refine take_ (i := 5) (N := some 33) (v := ?_) (a' := ?_) #[true, true, false, false, true, true, false, false] rfl rfl (take_ofW HT_.out HW_.out (by kernel_rfl)) (fun _ _ _ h => h) (Or.inl ⟨by rfl, ?_⟩) hHeld ?_ ?_
                  rotate_left
                  · rintro w' ⟨s0, s1, s2, s3, s4⟩
                    go_simp
                    with_reducible rfl
                  rotate_left
                  · simp only [Act.put, List.setIfInBounds_toArray, List.set_cons_zero, List.set_cons_succ, i64_w, i32_w]
                    rfl
                  refine pure_ (i := 6) (N := some 34) (v := ?_) (a' := ?_) #[true, true, false, false, true, true, true, false] rfl rfl (any_of HT_.out (by kernel_rfl)) (fun _ _ _ h => h) (Or.inl ⟨by rfl, ?_⟩) ?_ ?_
                  rotate_left
                  · intro w'
                    go_simp
                    with_reducible rfl
                  rotate_left
                  · simp only [Act.put, List.setIfInBounds_toArray, List.set_cons_zero, List.set_cons_succ, i64_w, i32_w]
                    rfl
                  refine one_ (i := 2) (N := some 30) #[true, true, true, false, true, true, true, false] rfl rfl (one_of HT_.out (by kernel_rfl)) (by decide) (fun K hK => ?_)
                  refine conv_step 9 46 (by rfl) (N := 30) rfl _ rfl rfl Tryd.underlying9 Tryd.underlying46 Tryd.underlying5 LMc12.out (y := y108) Ny108.out ?_
                  intro A111 c111 w19 hr_ hc_ hb
                  have n0_ := Aside0.mk (blk_below (g := gb107) (o := .cells #[.int .i64 ((rd_T31 l1 x6_1).f0), .int .i64 ((rd_T31 l1 x6_1).f1), .int .i64 ((rd_T31 l1 x6_1).f2), .int .i64 ((rd_T31 l1 x6_1).f3), .string ((rd_T31 l1 x6_1).f4)] 31 (0, 0)) (by (with_reducible repeat (first | refine blk_drewN ?_ _ | refine blk_drew ?_ | refine blk_alloc ?_ _)); exact BK107.out) hb)
                  have n1_ := Aside0.mk (below_step (by repeat (first | (with_reducible first | exact HB.out | apply below_alloc | apply pw_below_drewN | apply below_drew1 | refine below_set ?_ GE107.out) | exact HB.out)) hb)
                  have n2_ := Aside0.mk (hr_)
                  have n3_ := Aside0.mk (hc_)
                  clear BK107
                  clear HB
                  have BK107 := n0_
                  have HB := n1_
                  have HR111 := n2_
                  have HC111 := n3_
                  clear n0_ n1_ n2_ n3_
                  clear hb hr_ hc_
                  refine hK.out _ _ ⟨(blk_cell BK107.out 0).trans rfl, (blk_cell BK107.out 1).trans rfl, (blk_cell BK107.out 2).trans rfl, (blk_cell BK107.out 3).trans rfl, (blk_cell BK107.out 4).trans rfl⟩ (fun hHeld => ?_)
                  clear hK K
                  refine norm_ (a' := ?_) ?_ ?_
                  rotate_left
                  · show Act.put _ (some 30) _ = _
                    simp only [Act.put, List.setIfInBounds_toArray, List.set_cons_zero, List.set_cons_succ, i64_w, i32_w]
                    rfl
                  refine one_ (i := 3) (N := some 31) #[true, true, true, true, true, true, true, false] rfl rfl (one_of HT_.out (by kernel_rfl)) (by decide) (fun K hK => ?_)
                  refine goes_ Tryd.func27 (by kernel_rfl) rfl #[.slice A111 y108.length c111] (by rfl) rfl rfl (by (try simp only [List.map_toArray, List.map_cons, List.map_nil]); first | done | rfl | (simp only [List.length_drop, List.length_take]; rfl)) ?_
                  with_reducible refine (parlanceref04_Valid.calls k1 _ _ y108 t112 _ ?side1 ?side2 A13.out).mono ?_
                  (case side1 => repeat (first | exact (by repeat (first | (with_reducible exact HR111.out) | (with_reducible refine Kd.C_alloc ?_ _) | (with_reducible refine Kd.C_drewN ?_ _) | (with_reducible refine Kd.C_drew ?_) | exact HR111.out)) | (with_reducible refine Kd.C_alloc ?_ _) | (with_reducible refine Kd.C_drewN ?_ _) | (with_reducible refine Kd.C_drew ?_)))
                  (case side2 => exact HC111.out)
                  rintro e w20 ⟨rfl, hb⟩
                  refine ⟨_, rfl, ?_⟩
                  have n0_ := Aside0.mk (blk_below (g := gb107) (o := .cells #[.int .i64 ((rd_T31 l1 x6_1).f0), .int .i64 ((rd_T31 l1 x6_1).f1), .int .i64 ((rd_T31 l1 x6_1).f2), .int .i64 ((rd_T31 l1 x6_1).f3), .string ((rd_T31 l1 x6_1).f4)] 31 (0, 0)) (by (with_reducible repeat (first | refine blk_drewN ?_ _ | refine blk_drew ?_ | refine blk_alloc ?_ _)); exact BK107.out) hb)
                  have n1_ := Aside0.mk (Kd.C_below (by repeat (first | (with_reducible exact HR111.out) | (with_reducible refine Kd.C_alloc ?_ _) | (with_reducible refine Kd.C_drewN ?_ _) | (with_reducible refine Kd.C_drew ?_) | exact HR111.out)) hb)
                  have n2_ := Aside0.mk (below_step (by repeat (first | (with_reducible first | exact HB.out | apply below_alloc | apply pw_below_drewN | apply below_drew1 | refine below_set ?_ GE107.out) | exact HB.out)) hb)
                  clear BK107
                  clear HR111
                  clear HB
                  have BK107 := n0_
                  have HR111 := n1_
                  have HB := n2_
                  clear n0_ n1_ n2_
                  (try clear hb)
                  (try clear hb2)
                  (try clear hk)
                  (try clear hi)
                  refine hK.out _ _ ⟨(blk_cell BK107.out 0).trans rfl, (blk_cell BK107.out 1).trans rfl, (blk_cell BK107.out 2).trans rfl, (blk_cell BK107.out 3).trans rfl, (blk_cell BK107.out 4).trans rfl⟩ (fun hHeld => ?_)
                  clear hK K
                  refine norm_ (a' := ?_) ?_ ?_
                  rotate_left
                  · show Act.put _ (some 31) _ = _
                    simp only [Act.put, List.setIfInBounds_toArray, List.set_cons_zero, List.set_cons_succ, i64_w, i32_w]
                    rfl
                  refine pure_ (i := 7) (N := some 35) (v := ?_) (a' := ?_) #[true, true, true, true, true, true, true, true] rfl rfl (any_of HT_.out (by kernel_rfl)) (fun _ _ _ h => h) (Or.inl ⟨by rfl, ?_⟩) ?_ ?_
                  rotate_left
                  · intro w'
                    go_simp
                    with_reducible rfl
                  rotate_left
                  · simp only [Act.put, List.setIfInBounds_toArray, List.set_cons_zero, List.set_cons_succ, i64_w, i32_w]
                    rfl
                  refine done_ (done_of HT_.out (by kernel_rfl)) ?_
                  try go_wp2
                  go_ret2
                  exact ⟨by first | rfl | (simp [errW_none, errW_some] <;> rfl) | (simp [*, errW_none, errW_some] <;> rfl), by repeat (first | (with_reducible first | exact HB.out | apply below_alloc | apply pw_below_drewN | apply below_drew1 | refine below_set ?_ GE107.out) | exact HB.out)⟩
                · rw [if_neg c14] at H
                  have c14b0 : decide (t112 < (((rd_T31 l1 x6_1).f4).size : Int)) = false := decide_eq_false c14
                  clear c14
                  replace H := Option.bind_eq_some_iff.mp H
                  obtain ⟨⟨t113, t114⟩, A210, H⟩ := H
                  replace H : ((parlanceref07_Offset.f k1 x0_1 ((rd_T31 l1 x6_1).f2) ((rd_T31 l1 x6_1).f3)).bind fun bt115 => (if t114 = 0 then (parlanceref07_Apply.j1 k1 x0_1 l1 x6_1 t113 bt115.1 (bt115.2 != 0) ((rd_T31 l1 x6_1).f0) ((rd_T31 l1 x6_1).f1) ((rd_T31 l1 x6_1).f2) ((rd_T31 l1 x6_1).f3) ((rd_T31 l1 x6_1).f4)) else (parlanceref07_Apply.j1 k1 x0_1 l1 x6_1 t113 bt115.1 true ((rd_T31 l1 x6_1).f0) ((rd_T31 l1 x6_1).f1) ((rd_T31 l1 x6_1).f2) ((rd_T31 l1 x6_1).f3) ((rd_T31 l1 x6_1).f4)))) = some (r1, r2) := H
                  have A21 := Aside0.mk A210
                  clear A210
                  replace H := Option.bind_eq_some_iff.mp H
                  obtain ⟨⟨t115, t116⟩, A220, H⟩ := H
                  replace H : (if t114 = 0 then (parlanceref07_Apply.j1 k1 x0_1 l1 x6_1 t113 t115 (t116 != 0) ((rd_T31 l1 x6_1).f0) ((rd_T31 l1 x6_1).f1) ((rd_T31 l1 x6_1).f2) ((rd_T31 l1 x6_1).f3) ((rd_T31 l1 x6_1).f4)) else (parlanceref07_Apply.j1 k1 x0_1 l1 x6_1 t113 t115 true ((rd_T31 l1 x6_1).f0) ((rd_T31 l1 x6_1).f1) ((rd_T31 l1 x6_1).f2) ((rd_T31 l1 x6_1).f3) ((rd_T31 l1 x6_1).f4))) = some (r1, r2) := H
                  have A22 := Aside0.mk A220
                  clear A220
                  have HC23 := Aside0.mk H
                  clear H
                  have p106 : 0 ≤ (x6_1 : Int) := of_decide_eq_true (by first | (with_reducible assumption) | assumption)
                  have q106 : x6_1 < (l1.length : Int) := of_decide_eq_true (by first | (with_reducible assumption) | assumption)
                  obtain ⟨ad106, e106, hx106_0, hx106_1, hx106_2, hx106_3, hx106_4⟩ := at_T31 HR1.out x6_1 p106 q106
                  cases e106
                  replace hx106_0 := (HB.out.cell (World.block_lt_of_cell? w _ hx106_0)).trans hx106_0
                  replace hx106_1 := (HB.out.cell (World.block_lt_of_cell? w _ hx106_1)).trans hx106_1
                  replace hx106_2 := (HB.out.cell (World.block_lt_of_cell? w _ hx106_2)).trans hx106_2
                  replace hx106_3 := (HB.out.cell (World.block_lt_of_cell? w _ hx106_3)).trans hx106_3
                  replace hx106_4 := (HB.out.cell (World.block_lt_of_cell? w _ hx106_4)).trans hx106_4
                  replace p106 := eq_true p106
                  replace q106 := eq_true q106
                  try go_wp2_with (first | ((with_reducible refine gate_dst (N := 7) rfl ?_); refine box_event ?hg (N := 7) ?hd (cs := #[.int .i64 0, .int .i64 0, .int .i64 0, .int .i64 0, .string (⟨#[]⟩ : ByteArray)]) (t := 31) ?hr ?_; (case hd => rfl); (case hg => rfl); (case hr => first | (go_simp; done) | (go_simp; rfl)); intro gb107 hg w24 hbox hb; have n0_ := Aside0.mk (below_step (by repeat (first | (with_reducible first | exact HB.out | apply below_alloc | apply pw_below_drewN | apply below_drew1) | exact HB.out)) hb); have n1_ := Aside0.mk (hbox); have n2_ := Aside0.mk ((by rw [hg]; exact (below_size (by repeat (first | (with_reducible first | exact HB.out | apply below_alloc | apply pw_below_drewN | apply below_drew1) | exact HB.out))) : w.heap.size ≤ gb107)); have n3_ := Aside0.mk ((by rw [hg]; exact (below_size (by repeat (first | (with_reducible first | exact HB.out | apply below_alloc | apply pw_below_drewN | apply below_drew1) | exact HB.out))) : w.heap.size ≤ gb107)); clear HB; have HB := n0_; have BK107 := n1_; have GW107 := n2_; have GE107 := n3_; clear n0_ n1_ n2_ n3_; clear hb hbox hg; have hcz25_0 : w24.cell? ⟨gb107, 0, none⟩ = some (.int .i64 0) := (blk_cell BK107.out 0).trans rfl; have hcz25_1 : w24.cell? ⟨gb107, 1, none⟩ = some (.int .i64 0) := (blk_cell BK107.out 1).trans rfl; have hcz25_2 : w24.cell? ⟨gb107, 2, none⟩ = some (.int .i64 0) := (blk_cell BK107.out 2).trans rfl; have hcz25_3 : w24.cell? ⟨gb107, 3, none⟩ = some (.int .i64 0) := (blk_cell BK107.out 3).trans rfl; have hcz25_4 : w24.cell? ⟨gb107, 4, none⟩ = some (.string (⟨#[]⟩ : ByteArray)) := (blk_cell BK107.out 4).trans rfl; have hfz25_0 := blk_frozen BK107.out 0; have hfz25_1 := blk_frozen BK107.out 1; have hfz25_2 := blk_frozen BK107.out 2; have hfz25_3 := blk_frozen BK107.out 3; have hfz25_4 := blk_frozen BK107.out 4))
                  have n0_ : Aside0 ((((((w24.setCell ⟨gb107, 0, none⟩ (.int .i64 ((rd_T31 l1 x6_1).f0))).setCell ⟨gb107, 1, none⟩ (.int .i64 ((rd_T31 l1 x6_1).f1))).setCell ⟨gb107, 2, none⟩ (.int .i64 ((rd_T31 l1 x6_1).f2))).setCell ⟨gb107, 3, none⟩ (.int .i64 ((rd_T31 l1 x6_1).f3))).setCell ⟨gb107, 4, none⟩ (.string ((rd_T31 l1 x6_1).f4))).heap[gb107]? = some (.cells #[.int .i64 ((rd_T31 l1 x6_1).f0), .int .i64 ((rd_T31 l1 x6_1).f1), .int .i64 ((rd_T31 l1 x6_1).f2), .int .i64 ((rd_T31 l1 x6_1).f3), .string ((rd_T31 l1 x6_1).f4)] 31 (0, 0))) := ⟨by (with_reducible repeat (first | refine blk_drewN ?_ _ | refine blk_drew ?_ | refine blk_alloc ?_ _)); refine blk_put (cs := #[.int .i64 ((rd_T31 l1 x6_1).f0), .int .i64 ((rd_T31 l1 x6_1).f1), .int .i64 ((rd_T31 l1 x6_1).f2), .int .i64 ((rd_T31 l1 x6_1).f3), .string (⟨#[]⟩ : ByteArray)]) ?_ 4 _ rfl; (with_reducible repeat (first | refine blk_drewN ?_ _ | refine blk_drew ?_ | refine blk_alloc ?_ _)); refine blk_put (cs := #[.int .i64 ((rd_T31 l1 x6_1).f0), .int .i64 ((rd_T31 l1 x6_1).f1), .int .i64 ((rd_T31 l1 x6_1).f2), .int .i64 0, .string (⟨#[]⟩ : ByteArray)]) ?_ 3 _ rfl; (with_reducible repeat (first | refine blk_drewN ?_ _ | refine blk_drew ?_ | refine blk_alloc ?_ _)); refine blk_put (cs := #[.int .i64 ((rd_T31 l1 x6_1).f0), .int .i64 ((rd_T31 l1 x6_1).f1), .int .i64 0, .int .i64 0, .string (⟨#[]⟩ : ByteArray)]) ?_ 2 _ rfl; (with_reducible repeat (first | refine blk_drewN ?_ _ | refine blk_drew ?_ | refine blk_alloc ?_ _)); refine blk_put (cs := #[.int .i64 ((rd_T31 l1 x6_1).f0), .int .i64 0, .int .i64 0, .int .i64 0, .string (⟨#[]⟩ : ByteArray)]) ?_ 1 _ rfl; (with_reducible repeat (first | refine blk_drewN ?_ _ | refine blk_drew ?_ | refine blk_alloc ?_ _)); refine blk_put (cs := #[.int .i64 0, .int .i64 0, .int .i64 0, .int .i64 0, .string (⟨#[]⟩ : ByteArray)]) ?_ 0 _ rfl; (with_reducible repeat (first | refine blk_drewN ?_ _ | refine blk_drew ?_ | refine blk_alloc ?_ _)); exact BK107.out⟩
                  have n1_ : Aside0 (Below w.heap.size w (((((w24.setCell ⟨gb107, 0, none⟩ (.int .i64 ((rd_T31 l1 x6_1).f0))).setCell ⟨gb107, 1, none⟩ (.int .i64 ((rd_T31 l1 x6_1).f1))).setCell ⟨gb107, 2, none⟩ (.int .i64 ((rd_T31 l1 x6_1).f2))).setCell ⟨gb107, 3, none⟩ (.int .i64 ((rd_T31 l1 x6_1).f3))).setCell ⟨gb107, 4, none⟩ (.string ((rd_T31 l1 x6_1).f4)))) := ⟨by repeat (first | (with_reducible first | exact HB.out | apply below_alloc | apply pw_below_drewN | apply below_drew1 | refine below_set ?_ GE107.out) | exact HB.out)⟩
                  (try clear BK107)
                  (try clear HB)
                  generalize (((((w24.setCell ⟨gb107, 0, none⟩ (.int .i64 ((rd_T31 l1 x6_1).f0))).setCell ⟨gb107, 1, none⟩ (.int .i64 ((rd_T31 l1 x6_1).f1))).setCell ⟨gb107, 2, none⟩ (.int .i64 ((rd_T31 l1 x6_1).f2))).setCell ⟨gb107, 3, none⟩ (.int .i64 ((rd_T31 l1 x6_1).f3))).setCell ⟨gb107, 4, none⟩ (.string ((rd_T31 l1 x6_1).f4))) = w26 at n0_ n1_ ⊢
                  have BK107 := n0_
                  have HB := n1_
                  clear n0_ n1_
                  have n0_ := Aside0.mk (blk_drew BK107.out)
                  have n1_ := Aside0.mk (below_drew1 HB.out)
                  clear BK107
                  clear HB
                  have BK107 := n0_
                  have HB := n1_
                  clear n0_ n1_
                  refine start_ (n := 8) (S := fun w' => w'.cell? ⟨gb107, 0, none⟩ = some (.int .i64 ((rd_T31 l1 x6_1).f0)) ∧ w'.cell? ⟨gb107, 1, none⟩ = some (.int .i64 ((rd_T31 l1 x6_1).f1)) ∧ w'.cell? ⟨gb107, 2, none⟩ = some (.int .i64 ((rd_T31 l1 x6_1).f2)) ∧ w'.cell? ⟨gb107, 3, none⟩ = some (.int .i64 ((rd_T31 l1 x6_1).f3)) ∧ w'.cell? ⟨gb107, 4, none⟩ = some (.string ((rd_T31 l1 x6_1).f4))) (ds := []) #[false, false, false, false, false, false, false, false] (by kernel_rfl) rfl rfl ⟨(blk_cell BK107.out 0).trans rfl, (blk_cell BK107.out 1).trans rfl, (blk_cell BK107.out 2).trans rfl, (blk_cell BK107.out 3).trans rfl, (blk_cell BK107.out 4).trans rfl⟩ (fun hHeld => ?_); refine with_tabW parlanceref07_Apply.tab7 parlanceref07_Apply.bits7 (fun HT_ HW_ => ?_)
                  generalize w26.drew = w27 at BK107 HB hHeld ⊢
                  refine pure_ (i := 0) (N := some 28) (v := ?_) (a' := ?_) #[true, false, false, false, false, false, false, false] rfl rfl (any_of HT_.out (by kernel_rfl)) (fun _ _ _ h => h) (Or.inl ⟨by rfl, ?_⟩) ?_ ?_
                  rotate_left
                  · intro w'
                    go_simp
                    with_reducible rfl
                  rotate_left
                  · simp only [Act.put, List.setIfInBounds_toArray, List.set_cons_zero, List.set_cons_succ, i64_w, i32_w]
                    rfl
                  refine pure_ (i := 4) (N := some 32) (v := ?_) (a' := ?_) #[true, false, false, false, true, false, false, false] rfl rfl (any_of HT_.out (by kernel_rfl)) (fun _ _ _ h => h) (Or.inl ⟨by rfl, ?_⟩) ?_ ?_
                  rotate_left
                  · intro w'
                    go_simp
                    with_reducible rfl
                  rotate_left
                  · simp only [Act.put, List.setIfInBounds_toArray, List.set_cons_zero, List.set_cons_succ, i64_w, i32_w]
                    rfl
                  refine take_ (i := 1) (N := some 29) (v := ?_) (a' := ?_) #[true, true, false, false, true, false, false, false] rfl rfl (take_ofW HT_.out HW_.out (by kernel_rfl)) (fun _ _ _ h => h) (Or.inl ⟨by rfl, ?_⟩) hHeld ?_ ?_
                  rotate_left
                  · rintro w' ⟨s0, s1, s2, s3, s4⟩
                    go_simp
                    with_reducible rfl
                  rotate_left
                  · simp only [Act.put, List.setIfInBounds_toArray, List.set_cons_zero, List.set_cons_succ, i64_w, i32_w]
                    rfl
                  refine take_ (i := 5) (N := some 33) (v := ?_) (a' := ?_) #[true, true, false, false, true, true, false, false] rfl rfl (take_ofW HT_.out HW_.out (by kernel_rfl)) (fun _ _ _ h => h) (Or.inl ⟨by rfl, ?_⟩) hHeld ?_ ?_
                  rotate_left
                  · rintro w' ⟨s0, s1, s2, s3, s4⟩
                    go_simp
                    with_reducible rfl
                  rotate_left
                  · simp only [Act.put, List.setIfInBounds_toArray, List.set_cons_zero, List.set_cons_succ, i64_w, i32_w]
                    rfl
                  refine pure_ (i := 6) (N := some 34) (v := ?_) (a' := ?_) #[true, true, false, false, true, true, true, false] rfl rfl (any_of HT_.out (by kernel_rfl)) (fun _ _ _ h => h) (Or.inl ⟨by rfl, ?_⟩) ?_ ?_
                  rotate_left
                  · intro w'
                    go_simp
                    with_reducible rfl
                  rotate_left
                  · simp only [Act.put, List.setIfInBounds_toArray, List.set_cons_zero, List.set_cons_succ, i64_w, i32_w]
                    rfl
                  refine one_ (i := 2) (N := some 30) #[true, true, true, false, true, true, true, false] rfl rfl (one_of HT_.out (by kernel_rfl)) (by decide) (fun K hK => ?_)
                  refine conv_step 9 46 (by rfl) (N := 30) rfl _ rfl rfl Tryd.underlying9 Tryd.underlying46 Tryd.underlying5 LMc12.out (y := y108) Ny108.out ?_
                  intro A111 c111 w28 hr_ hc_ hb
                  have n0_ := Aside0.mk (blk_below (g := gb107) (o := .cells #[.int .i64 ((rd_T31 l1 x6_1).f0), .int .i64 ((rd_T31 l1 x6_1).f1), .int .i64 ((rd_T31 l1 x6_1).f2), .int .i64 ((rd_T31 l1 x6_1).f3), .string ((rd_T31 l1 x6_1).f4)] 31 (0, 0)) (by (with_reducible repeat (first | refine blk_drewN ?_ _ | refine blk_drew ?_ | refine blk_alloc ?_ _)); exact BK107.out) hb)
                  have n1_ := Aside0.mk (below_step (by repeat (first | (with_reducible first | exact HB.out | apply below_alloc | apply pw_below_drewN | apply below_drew1 | refine below_set ?_ GE107.out) | exact HB.out)) hb)
                  have n2_ := Aside0.mk (hr_)
                  have n3_ := Aside0.mk (hc_)
                  clear BK107
                  clear HB
                  have BK107 := n0_
                  have HB := n1_
                  have HR111 := n2_
                  have HC111 := n3_
                  clear n0_ n1_ n2_ n3_
                  clear hb hr_ hc_
                  refine hK.out _ _ ⟨(blk_cell BK107.out 0).trans rfl, (blk_cell BK107.out 1).trans rfl, (blk_cell BK107.out 2).trans rfl, (blk_cell BK107.out 3).trans rfl, (blk_cell BK107.out 4).trans rfl⟩ (fun hHeld => ?_)
                  clear hK K
                  refine norm_ (a' := ?_) ?_ ?_
                  rotate_left
                  · show Act.put _ (some 30) _ = _
                    simp only [Act.put, List.setIfInBounds_toArray, List.set_cons_zero, List.set_cons_succ, i64_w, i32_w]
                    rfl
                  refine one_ (i := 3) (N := some 31) #[true, true, true, true, true, true, true, false] rfl rfl (one_of HT_.out (by kernel_rfl)) (by decide) (fun K hK => ?_)
                  refine goes_ Tryd.func27 (by kernel_rfl) rfl #[.slice A111 y108.length c111] (by rfl) rfl rfl (by (try simp only [List.map_toArray, List.map_cons, List.map_nil]); first | done | rfl | (simp only [List.length_drop, List.length_take]; rfl)) ?_
                  with_reducible refine (parlanceref04_Valid.calls k1 _ _ y108 t112 _ ?side1 ?side2 A13.out).mono ?_
                  (case side1 => repeat (first | exact (by repeat (first | (with_reducible exact HR111.out) | (with_reducible refine Kd.C_alloc ?_ _) | (with_reducible refine Kd.C_drewN ?_ _) | (with_reducible refine Kd.C_drew ?_) | exact HR111.out)) | (with_reducible refine Kd.C_alloc ?_ _) | (with_reducible refine Kd.C_drewN ?_ _) | (with_reducible refine Kd.C_drew ?_)))
                  (case side2 => exact HC111.out)
                  rintro e w29 ⟨rfl, hb⟩
                  refine ⟨_, rfl, ?_⟩
                  have n0_ := Aside0.mk (blk_below (g := gb107) (o := .cells #[.int .i64 ((rd_T31 l1 x6_1).f0), .int .i64 ((rd_T31 l1 x6_1).f1), .int .i64 ((rd_T31 l1 x6_1).f2), .int .i64 ((rd_T31 l1 x6_1).f3), .string ((rd_T31 l1 x6_1).f4)] 31 (0, 0)) (by (with_reducible repeat (first | refine blk_drewN ?_ _ | refine blk_drew ?_ | refine blk_alloc ?_ _)); exact BK107.out) hb)
                  have n1_ := Aside0.mk (Kd.C_below (by repeat (first | (with_reducible exact HR111.out) | (with_reducible refine Kd.C_alloc ?_ _) | (with_reducible refine Kd.C_drewN ?_ _) | (with_reducible refine Kd.C_drew ?_) | exact HR111.out)) hb)
                  have n2_ := Aside0.mk (below_step (by repeat (first | (with_reducible first | exact HB.out | apply below_alloc | apply pw_below_drewN | apply below_drew1 | refine below_set ?_ GE107.out) | exact HB.out)) hb)
                  clear BK107
                  clear HR111
                  clear HB
                  have BK107 := n0_
                  have HR111 := n1_
                  have HB := n2_
                  clear n0_ n1_ n2_
                  (try clear hb)
                  (try clear hb2)
                  (try clear hk)
                  (try clear hi)
                  refine hK.out _ _ ⟨(blk_cell BK107.out 0).trans rfl, (blk_cell BK107.out 1).trans rfl, (blk_cell BK107.out 2).trans rfl, (blk_cell BK107.out 3).trans rfl, (blk_cell BK107.out 4).trans rfl⟩ (fun hHeld => ?_)
                  clear hK K
                  refine norm_ (a' := ?_) ?_ ?_
                  rotate_left
                  · show Act.put _ (some 31) _ = _
                    simp only [Act.put, List.setIfInBounds_toArray, List.set_cons_zero, List.set_cons_succ, i64_w, i32_w]
                    rfl
                  refine pure_ (i := 7) (N := some 35) (v := ?_) (a' := ?_) #[true, true, true, true, true, true, true, true] rfl rfl (any_of HT_.out (by kernel_rfl)) (fun _ _ _ h => h) (Or.inl ⟨by rfl, ?_⟩) ?_ ?_
                  rotate_left
                  · intro w'
                    go_simp
                    with_reducible rfl
                  rotate_left
                  · simp only [Act.put, List.setIfInBounds_toArray, List.set_cons_zero, List.set_cons_succ, i64_w, i32_w]
                    rfl
                  refine done_ (done_of HT_.out (by kernel_rfl)) ?_
                  have hcz30_0 : w29.cell? ⟨gb107, 0, none⟩ = some (.int .i64 ((rd_T31 l1 x6_1).f0)) := (blk_cell BK107.out 0).trans rfl
                  have hcz30_1 : w29.cell? ⟨gb107, 1, none⟩ = some (.int .i64 ((rd_T31 l1 x6_1).f1)) := (blk_cell BK107.out 1).trans rfl
                  have hcz30_2 : w29.cell? ⟨gb107, 2, none⟩ = some (.int .i64 ((rd_T31 l1 x6_1).f2)) := (blk_cell BK107.out 2).trans rfl
                  have hcz30_3 : w29.cell? ⟨gb107, 3, none⟩ = some (.int .i64 ((rd_T31 l1 x6_1).f3)) := (blk_cell BK107.out 3).trans rfl
                  have hcz30_4 : w29.cell? ⟨gb107, 4, none⟩ = some (.string ((rd_T31 l1 x6_1).f4)) := (blk_cell BK107.out 4).trans rfl
                  have hfz30_0 := blk_frozen BK107.out 0
                  have hfz30_1 := blk_frozen BK107.out 1
                  have hfz30_2 := blk_frozen BK107.out 2
                  have hfz30_3 := blk_frozen BK107.out 3
                  have hfz30_4 := blk_frozen BK107.out 4
                  go_upto_region 11 with (first | ((with_reducible refine gate_callee (f := 19) rfl ?_); refine goesL_ (some 42) rfl rfl Tryd.func19 (by kernel_rfl) rfl #[.string x0_1, .int .i64 ((rd_T31 l1 x6_1).f0), .int .i64 ((rd_T31 l1 x6_1).f1)] rfl (by (try simp only [List.map_toArray, List.map_cons, List.map_nil]); first | done | rfl | (simp only [List.length_drop, List.length_take]; rfl)) ?_; (with_reducible refine (parlanceref07_Offset.calls k1 x0_1 ((rd_T31 l1 x6_1).f0) ((rd_T31 l1 x6_1).f1) t113 t114 _ A21.out).mono ?_); rintro e w31 ⟨rfl, hb⟩; refine ⟨_, rfl, ?_⟩; have n0_ := Aside0.mk (blk_below (g := gb107) (o := .cells #[.int .i64 ((rd_T31 l1 x6_1).f0), .int .i64 ((rd_T31 l1 x6_1).f1), .int .i64 ((rd_T31 l1 x6_1).f2), .int .i64 ((rd_T31 l1 x6_1).f3), .string ((rd_T31 l1 x6_1).f4)] 31 (0, 0)) (by (with_reducible repeat (first | refine blk_drewN ?_ _ | refine blk_drew ?_ | refine blk_alloc ?_ _)); exact BK107.out) hb); have n1_ := Aside0.mk (Kd.C_below (by repeat (first | (with_reducible exact HR111.out) | (with_reducible refine Kd.C_alloc ?_ _) | (with_reducible refine Kd.C_drewN ?_ _) | (with_reducible refine Kd.C_drew ?_) | exact HR111.out)) hb); have n2_ := Aside0.mk (below_step (by repeat (first | (with_reducible first | exact HB.out | apply below_alloc | apply pw_below_drewN | apply below_drew1 | refine below_set ?_ GE107.out) | exact HB.out)) hb); clear BK107; clear HR111; clear HB; have BK107 := n0_; have HR111 := n1_; have HB := n2_; clear n0_ n1_ n2_; (try clear hb); (try clear hb2); (try clear hk); (try clear hi); have hcz32_0 : w31.cell? ⟨gb107, 0, none⟩ = some (.int .i64 ((rd_T31 l1 x6_1).f0)) := (blk_cell BK107.out 0).trans rfl; have hcz32_1 : w31.cell? ⟨gb107, 1, none⟩ = some (.int .i64 ((rd_T31 l1 x6_1).f1)) := (blk_cell BK107.out 1).trans rfl; have hcz32_2 : w31.cell? ⟨gb107, 2, none⟩ = some (.int .i64 ((rd_T31 l1 x6_1).f2)) := (blk_cell BK107.out 2).trans rfl; have hcz32_3 : w31.cell? ⟨gb107, 3, none⟩ = some (.int .i64 ((rd_T31 l1 x6_1).f3)) := (blk_cell BK107.out 3).trans rfl; have hcz32_4 : w31.cell? ⟨gb107, 4, none⟩ = some (.string ((rd_T31 l1 x6_1).f4)) := (blk_cell BK107.out 4).trans rfl; have hfz32_0 := blk_frozen BK107.out 0; have hfz32_1 := blk_frozen BK107.out 1; have hfz32_2 := blk_frozen BK107.out 2; have hfz32_3 := blk_frozen BK107.out 3; have hfz32_4 := blk_frozen BK107.out 4) | ((with_reducible refine gate_callee (f := 19) rfl ?_); refine goesL_ (some 51) rfl rfl Tryd.func19 (by kernel_rfl) rfl #[.string x0_1, .int .i64 ((rd_T31 l1 x6_1).f2), .int .i64 ((rd_T31 l1 x6_1).f3)] rfl (by (try simp only [List.map_toArray, List.map_cons, List.map_nil]); first | done | rfl | (simp only [List.length_drop, List.length_take]; rfl)) ?_; (with_reducible refine (parlanceref07_Offset.calls k1 x0_1 ((rd_T31 l1 x6_1).f2) ((rd_T31 l1 x6_1).f3) t115 t116 _ A22.out).mono ?_); rintro e w33 ⟨rfl, hb⟩; refine ⟨_, rfl, ?_⟩; have n0_ := Aside0.mk (blk_below (g := gb107) (o := .cells #[.int .i64 ((rd_T31 l1 x6_1).f0), .int .i64 ((rd_T31 l1 x6_1).f1), .int .i64 ((rd_T31 l1 x6_1).f2), .int .i64 ((rd_T31 l1 x6_1).f3), .string ((rd_T31 l1 x6_1).f4)] 31 (0, 0)) (by (with_reducible repeat (first | refine blk_drewN ?_ _ | refine blk_drew ?_ | refine blk_alloc ?_ _)); exact BK107.out) hb); have n1_ := Aside0.mk (Kd.C_below (by repeat (first | (with_reducible exact HR111.out) | (with_reducible refine Kd.C_alloc ?_ _) | (with_reducible refine Kd.C_drewN ?_ _) | (with_reducible refine Kd.C_drew ?_) | exact HR111.out)) hb); have n2_ := Aside0.mk (below_step (by repeat (first | (with_reducible first | exact HB.out | apply below_alloc | apply pw_below_drewN | apply below_drew1 | refine below_set ?_ GE107.out) | exact HB.out)) hb); clear BK107; clear HR111; clear HB; have BK107 := n0_; have HR111 := n1_; have HB := n2_; clear n0_ n1_ n2_; (try clear hb); (try clear hb2); (try clear hk); (try clear hi)))
                  (try simp only [Act.put, List.setIfInBounds_toArray, List.set_cons_zero, List.set_cons_succ])
                  go_cut [59] (fun v59 wc => ∃ (kq : Nat) (x59_22 : Bool), v59 = .bool x59_22 ∧ Aside0 (parlanceref07_Apply.j1 kq x0_1 l1 x6_1 t113 t115 x59_22 ((rd_T31 l1 x6_1).f0) ((rd_T31 l1 x6_1).f1) ((rd_T31 l1 x6_1).f2) ((rd_T31 l1 x6_1).f3) ((rd_T31 l1 x6_1).f4) = some (r1, r2)) ∧ Aside0 (kq ≤ k1) ∧ Aside0 (wc.heap[gb107]? = some (.cells #[.int .i64 ((rd_T31 l1 x6_1).f0), .int .i64 ((rd_T31 l1 x6_1).f1), .int .i64 ((rd_T31 l1 x6_1).f2), .int .i64 ((rd_T31 l1 x6_1).f3), .string ((rd_T31 l1 x6_1).f4)] 31 (0, 0))) ∧ Aside0 (Kd.C (Kd.int .u8) wc A111 y108.length y108) ∧ Aside0 (Below w.heap.size w wc))
                  case first =>
                    have H := HC23.out
                    clear HC23
                    by_cases c34 : t114 = 0
                    · rw [if_pos c34] at H
                      have c34b0 : (t114 == 0) = true := beq_iff_eq.mpr c34
                      have c34b1 : (t114 != 0) = false := bne_eq_false_iff_eq.mpr c34
                      clear c34
                      (first | rw [c34b0] | (simp only [i64_w, i32_w]; rw [c34b0]) | skip)
                      have H' := Aside0.mk H
                      clear H
                      go_wp2
                      go_meet
                      case rel => exact ⟨_, ((t116 != 0)), (by first | rfl | (simp; done) | (simp [*]; done)), H', ⟨by have := HK1.out; first | omega | exact Nat.le_refl _⟩, ⟨by (with_reducible repeat (first | refine blk_drewN ?_ _ | refine blk_drew ?_ | refine blk_alloc ?_ _)); exact BK107.out⟩, ⟨by repeat (first | (with_reducible exact HR111.out) | (with_reducible refine Kd.C_alloc ?_ _) | (with_reducible refine Kd.C_drewN ?_ _) | (with_reducible refine Kd.C_drew ?_) | exact HR111.out)⟩, ⟨by repeat (first | (with_reducible first | exact HB.out | apply below_alloc | apply pw_below_drewN | apply below_drew1 | refine below_set ?_ GE107.out) | exact HB.out)⟩⟩
                    · rw [if_neg c34] at H
                      have c34b0 : (t114 == 0) = false := beq_eq_false_iff_ne.mpr c34
                      have c34b1 : (t114 != 0) = true := bne_iff_ne.mpr c34
                      (first | rw [c34b0] | (simp only [i64_w, i32_w]; rw [c34b0]) | skip)
                      have H' := Aside0.mk H
                      clear H
                      go_wp2
                      go_meet
                      case rel => exact ⟨_, (true), (by first | rfl | (simp; done) | (simp [*]; done)), H', ⟨by have := HK1.out; first | omega | exact Nat.le_refl _⟩, ⟨by (with_reducible repeat (first | refine blk_drewN ?_ _ | refine blk_drew ?_ | refine blk_alloc ?_ _)); exact BK107.out⟩, ⟨by repeat (first | (with_reducible exact HR111.out) | (with_reducible refine Kd.C_alloc ?_ _) | (with_reducible refine Kd.C_drewN ?_ _) | (with_reducible refine Kd.C_drew ?_) | exact HR111.out)⟩, ⟨by repeat (first | (with_reducible first | exact HB.out | apply below_alloc | apply pw_below_drewN | apply below_drew1 | refine below_set ?_ GE107.out) | exact HB.out)⟩⟩
                  case rest =>
                    clear HC23
                    try clear c1
                    try clear p1
                    try clear q1
                    try clear hx1
                    try clear c2
                    try clear p2
                    try clear c3
                    try clear c5
                    try clear c5b0
                    try clear c10
                    try clear c10b0
                    try clear p10
                    try clear q10
                    try clear hx10
                    try clear c11
                    try clear c11b0
                    try clear c12
                    try clear c14
                    try clear c14b0
                    try clear c15
                    try clear c19
                    try clear c27
                    try clear c34
                    try clear c34b0
                    try clear c34b1
                    try clear hcz16_0
                    try clear hcz16_1
                    try clear hcz16_2
                    try clear hcz16_3
                    try clear hcz16_4
                    try clear hcz25_0
                    try clear hcz25_1
                    try clear hcz25_2
                    try clear hcz25_3
                    try clear hcz25_4
                    try clear hcz30_0
                    try clear hcz30_1
                    try clear hcz30_2
                    try clear hcz30_3
                    try clear hcz30_4
                    try clear hcz32_0
                    try clear hcz32_1
                    try clear hcz32_2
                    try clear hcz32_3
                    try clear hcz32_4
                    try clear hfz16_0
                    try clear hfz16_1
                    try clear hfz16_2
                    try clear hfz16_3
                    try clear hfz16_4
                    try clear hfz25_0
                    try clear hfz25_1
                    try clear hfz25_2
                    try clear hfz25_3
                    try clear hfz25_4
                    try clear hfz30_0
                    try clear hfz30_1
                    try clear hfz30_2
                    try clear hfz30_3
                    try clear hfz30_4
                    try clear hfz32_0
                    try clear hfz32_1
                    try clear hfz32_2
                    try clear hfz32_3
                    try clear hfz32_4
                    try clear hx106_0
                    try clear hx106_1
                    try clear hx106_2
                    try clear hx106_3
                    try clear hx106_4
                    try clear p106
                    try clear p2
                    try clear q106
                    obtain ⟨kq, x59_22, rfl, HA, HJ22, BK107, HR111, HB⟩ := hcut
                    cases kq with
                    | zero => exact absurd HA.out (by simp [parlanceref07_Apply.j1])
                    | succ kj22 =>
                      have H := HA.out
                      clear HA
                      simp only [parlanceref07_Apply.j1] at H
                      by_cases c35 : x59_22 = true
                      · subst c35
                        have H1 : (some ((⟨#[]⟩ : ByteArray), 70)) = some (r1, r2) := by rw [if_pos rfl] at H; exact H
                        clear H
                        have H := H1
                        clear H1
                        simp only [Option.some.injEq, Prod.mk.injEq] at H
                        obtain ⟨rfl, rfl⟩ := H
                        go_wp2
                        go_ret2
                        exact ⟨by first | rfl | (simp [errW_none, errW_some] <;> rfl) | (simp [*, errW_none, errW_some] <;> rfl), by repeat (first | (with_reducible first | exact HB.out | apply below_alloc | apply pw_below_drewN | apply below_drew1 | refine below_set ?_ GE107.out) | exact HB.out)⟩
                      · replace c35 := Bool.eq_false_iff.mpr c35
                        subst c35
                        have H1 : (if t115 < t113 then (some ((⟨#[]⟩ : ByteArray), 71)) else (if 0 ≤ t113 then (if t113 ≤ (x0_1.size : Int) then (if (t113 : Int).toNat + ((rd_T31 l1 x6_1).f4).size ≤ 9223372036854775807 then (if 0 ≤ t115 then (if t115 ≤ (x0_1.size : Int) then (if (t113 : Int).toNat + ((rd_T31 l1 x6_1).f4).size + (x0_1.size - (t115 : Int).toNat) ≤ 9223372036854775807 then (if (t113 + (((rd_T31 l1 x6_1).f4).size : Int) + ((x0_1.size - (t115 : Int).toNat : Nat) : Int)) > 32768 then (some ((⟨#[]⟩ : ByteArray), 52)) else (parlanceref07_Apply.l0 kj22 (((x0_1.extract 0 (t113 : Int).toNat) ++ ((rd_T31 l1 x6_1).f4)) ++ (x0_1.extract (t115 : Int).toNat x0_1.size)) l1 (wrap64 (x6_1 + 1)))) else (none)) else (none)) else (none)) else (none)) else (none)) else (none))) = some (r1, r2) := by rw [if_neg (show ¬ (false = true) by decide)] at H; exact H
                        clear H
                        have H := H1
                        clear H1
                        by_cases c36 : t115 < t113
                        · rw [if_pos c36] at H
                          have c36b0 : decide (t115 < t113) = true := decide_eq_true c36
                          clear c36
                          simp only [Option.some.injEq, Prod.mk.injEq] at H
                          obtain ⟨rfl, rfl⟩ := H
                          go_wp2
                          go_ret2
                          exact ⟨by first | rfl | (simp [errW_none, errW_some] <;> rfl) | (simp [*, errW_none, errW_some] <;> rfl), by repeat (first | (with_reducible first | exact HB.out | apply below_alloc | apply pw_below_drewN | apply below_drew1 | refine below_set ?_ GE107.out) | exact HB.out)⟩
                        · rw [if_neg c36] at H
                          have c36b0 : decide (t115 < t113) = false := decide_eq_false c36
                          clear c36
                          by_cases c37 : 0 ≤ t113
                          · rw [if_pos c37] at H
                            have c37b0 := eq_true c37
                            have c37b1 : decide (0 ≤ t113) = true := decide_eq_true c37
                            have c37m : max (t113 : Int) 0 = t113 := Int.max_eq_left c37
                            clear c37
                            by_cases c38 : t113 ≤ (x0_1.size : Int)
                            · rw [if_pos c38] at H
                              have c38b0 := eq_true c38
                              have c38b1 : decide (t113 ≤ (x0_1.size : Int)) = true := decide_eq_true c38
                              clear c38
                              by_cases c39 : (t113 : Int).toNat + ((rd_T31 l1 x6_1).f4).size ≤ 9223372036854775807
                              · rw [if_pos c39] at H
                                have c39b0 := eq_true c39
                                have c39b1 : decide ((t113 : Int).toNat + ((rd_T31 l1 x6_1).f4).size ≤ 9223372036854775807) = true := decide_eq_true c39
                                try have c39b2 : (9223372036854775807 < (t113 : Int).toNat + ((rd_T31 l1 x6_1).f4).size) = False := eq_false (Nat.not_lt.2 c39)
                                by_cases c40 : 0 ≤ t115
                                · rw [if_pos c40] at H
                                  have c40b0 := eq_true c40
                                  have c40b1 : decide (0 ≤ t115) = true := decide_eq_true c40
                                  clear c40
                                  by_cases c41 : t115 ≤ (x0_1.size : Int)
                                  · rw [if_pos c41] at H
                                    have c41b0 := eq_true c41
                                    have c41b1 : decide (t115 ≤ (x0_1.size : Int)) = true := decide_eq_true c41
                                    clear c41
                                    by_cases c42 : (t113 : Int).toNat + ((rd_T31 l1 x6_1).f4).size + (x0_1.size - (t115 : Int).toNat) ≤ 9223372036854775807
                                    · rw [if_pos c42] at H
                                      have c42b0 := eq_true c42
                                      have c42b1 : decide ((t113 : Int).toNat + ((rd_T31 l1 x6_1).f4).size + (x0_1.size - (t115 : Int).toNat) ≤ 9223372036854775807) = true := decide_eq_true c42
                                      try have c42b2 : (9223372036854775807 < (t113 : Int).toNat + ((rd_T31 l1 x6_1).f4).size + (x0_1.size - (t115 : Int).toNat)) = False := eq_false (Nat.not_lt.2 c42)
                                      by_cases c43 : (t113 + (((rd_T31 l1 x6_1).f4).size : Int) + ((x0_1.size - (t115 : Int).toNat : Nat) : Int)) > 32768
                                      · rw [if_pos c43] at H
                                        have c43b0 : decide (32768 < (t113 + (((rd_T31 l1 x6_1).f4).size : Int) + ((x0_1.size - (t115 : Int).toNat : Nat) : Int))) = true := decide_eq_true c43
                                        clear c43
                                        simp only [Option.some.injEq, Prod.mk.injEq] at H
                                        obtain ⟨rfl, rfl⟩ := H
                                        try go_wp2
                                        have n0_ := Aside0.mk (blk_drew BK107.out)
                                        have n1_ := Aside0.mk (Kd.C_drew HR111.out)
                                        have n2_ := Aside0.mk (below_drew1 HB.out)
                                        clear BK107
                                        clear HR111
                                        clear HB
                                        have BK107 := n0_
                                        have HR111 := n1_
                                        have HB := n2_
                                        clear n0_ n1_ n2_
                                        refine start_ (n := 11) (S := fun w' => w'.cell? ⟨gb107, 0, none⟩ = some (.int .i64 ((rd_T31 l1 x6_1).f0)) ∧ w'.cell? ⟨gb107, 1, none⟩ = some (.int .i64 ((rd_T31 l1 x6_1).f1)) ∧ w'.cell? ⟨gb107, 2, none⟩ = some (.int .i64 ((rd_T31 l1 x6_1).f2)) ∧ w'.cell? ⟨gb107, 3, none⟩ = some (.int .i64 ((rd_T31 l1 x6_1).f3)) ∧ w'.cell? ⟨gb107, 4, none⟩ = some (.string ((rd_T31 l1 x6_1).f4))) (ds := []) #[false, false, false, false, false, false, false, false, false, false, false] (by kernel_rfl) rfl rfl ⟨(blk_cell BK107.out 0).trans rfl, (blk_cell BK107.out 1).trans rfl, (blk_cell BK107.out 2).trans rfl, (blk_cell BK107.out 3).trans rfl, (blk_cell BK107.out 4).trans rfl⟩ (fun hHeld => ?_); refine with_tabW parlanceref07_Apply.tab15 parlanceref07_Apply.bits15 (fun HT_ HW_ => ?_)
                                        generalize wc.drew = w44 at BK107 HR111 HB hHeld ⊢
                                        refine pure_ (i := 0) (N := some 63) (v := ?_) (a' := ?_) #[true, false, false, false, false, false, false, false, false, false, false] rfl rfl (any_of HT_.out (by kernel_rfl)) (fun _ _ _ h => h) (Or.inl ⟨by rfl, ?_⟩) ?_ ?_
                                        rotate_left
                                        · intro w'
                                          go_simp
                                          with_reducible rfl
                                        rotate_left
                                        · simp only [Act.put, List.setIfInBounds_toArray, List.set_cons_zero, List.set_cons_succ, i64_w, i32_w]
                                          rfl
                                        refine pure_ (i := 1) (N := some 64) (v := ?_) (a' := ?_) #[true, true, false, false, false, false, false, false, false, false, false] rfl rfl (any_of HT_.out (by kernel_rfl)) (fun _ _ _ h => h) (Or.inl ⟨by rfl, ?_⟩) ?_ ?_
                                        rotate_left
                                        · intro w'
                                          go_simp
                                          with_reducible rfl
                                        rotate_left
                                        · simp only [Act.put, List.setIfInBounds_toArray, List.set_cons_zero, List.set_cons_succ, i64_w, i32_w]
                                          rfl
                                        refine pure_ (i := 2) (N := some 65) (v := ?_) (a' := ?_) #[true, true, true, false, false, false, false, false, false, false, false] rfl rfl (any_of HT_.out (by kernel_rfl)) (fun _ _ _ h => h) (Or.inl ⟨by rfl, ?_⟩) ?_ ?_
                                        rotate_left
                                        · intro w'
                                          go_simp
                                          with_reducible rfl
                                        rotate_left
                                        · simp only [Act.put, List.setIfInBounds_toArray, List.set_cons_zero, List.set_cons_succ, i64_w, i32_w]
                                          rfl
                                        refine pure_ (i := 3) (N := some 66) (v := ?_) (a' := ?_) #[true, true, true, true, false, false, false, false, false, false, false] rfl rfl (any_of HT_.out (by kernel_rfl)) (fun _ _ _ h => h) (Or.inl ⟨by rfl, ?_⟩) ?_ ?_
                                        rotate_left
                                        · intro w'
                                          go_simp
                                          with_reducible rfl
                                        rotate_left
                                        · simp only [Act.put, List.setIfInBounds_toArray, List.set_cons_zero, List.set_cons_succ, i64_w, i32_w]
                                          rfl
                                        refine pure_ (i := 6) (N := some 69) (v := ?_) (a' := ?_) #[true, true, true, true, false, false, true, false, false, false, false] rfl rfl (any_of HT_.out (by kernel_rfl)) (fun _ _ _ h => h) (Or.inl ⟨by rfl, ?_⟩) ?_ ?_
                                        rotate_left
                                        · intro w'
                                          go_simp
                                          with_reducible rfl
                                        rotate_left
                                        · simp only [Act.put, List.setIfInBounds_toArray, List.set_cons_zero, List.set_cons_succ, i64_w, i32_w]
                                          rfl
                                        refine pure_ (i := 7) (N := some 70) (v := ?_) (a' := ?_) #[true, true, true, true, false, false, true, true, false, false, false] rfl rfl (any_of HT_.out (by kernel_rfl)) (fun _ _ _ h => h) (Or.inl ⟨by rfl, ?_⟩) ?_ ?_
                                        rotate_left
                                        · intro w'
                                          go_simp
                                          with_reducible rfl
                                        rotate_left
                                        · simp only [Act.put, List.setIfInBounds_toArray, List.set_cons_zero, List.set_cons_succ, i64_w, i32_w]
                                          rfl
                                        refine pure_ (i := 8) (N := some 71) (v := ?_) (a' := ?_) #[true, true, true, true, false, false, true, true, true, false, false] rfl rfl (any_of HT_.out (by kernel_rfl)) (fun _ _ _ h => h) (Or.inl ⟨by rfl, ?_⟩) ?_ ?_
                                        rotate_left
                                        · intro w'
                                          go_simp
                                          with_reducible rfl
                                        rotate_left
                                        · simp only [Act.put, List.setIfInBounds_toArray, List.set_cons_zero, List.set_cons_succ, i64_w, i32_w]
                                          rfl
                                        refine take_ (i := 4) (N := some 67) (v := ?_) (a' := ?_) #[true, true, true, true, true, false, true, true, true, false, false] rfl rfl (take_ofW HT_.out HW_.out (by kernel_rfl)) (fun _ _ _ h => h) (Or.inl ⟨by rfl, ?_⟩) hHeld ?_ ?_
                                        rotate_left
                                        · rintro w' ⟨s0, s1, s2, s3, s4⟩
                                          go_simp
                                          with_reducible rfl
                                        rotate_left
                                        · simp only [Act.put, List.setIfInBounds_toArray, List.set_cons_zero, List.set_cons_succ, i64_w, i32_w]
                                          rfl
                                        refine pure_ (i := 5) (N := some 68) (v := ?_) (a' := ?_) #[true, true, true, true, true, true, true, true, true, false, false] rfl rfl (any_of HT_.out (by kernel_rfl)) (fun _ _ _ h => h) (Or.inl ⟨by rfl, ?_⟩) ?_ ?_
                                        rotate_left
                                        · intro w'
                                          go_simp
                                          with_reducible rfl
                                        rotate_left
                                        · simp only [Act.put, List.setIfInBounds_toArray, List.set_cons_zero, List.set_cons_succ, i64_w, i32_w]
                                          rfl
                                        refine pure_ (i := 9) (N := some 72) (v := ?_) (a' := ?_) #[true, true, true, true, true, true, true, true, true, true, false] rfl rfl (any_of HT_.out (by kernel_rfl)) (fun _ _ _ h => h) (Or.inl ⟨by rfl, ?_⟩) ?_ ?_
                                        rotate_left
                                        · intro w'
                                          go_simp
                                          with_reducible rfl
                                        rotate_left
                                        · simp only [Act.put, List.setIfInBounds_toArray, List.set_cons_zero, List.set_cons_succ, i64_w, i32_w]
                                          rfl
                                        refine pure_ (i := 10) (N := some 0) (v := ?_) (a' := ?_) #[true, true, true, true, true, true, true, true, true, true, true] rfl rfl (any_of HT_.out (by kernel_rfl)) (fun _ _ _ h => h) (Or.inl ⟨by rfl, ?_⟩) ?_ ?_
                                        rotate_left
                                        · intro w'
                                          go_simp
                                          with_reducible rfl
                                        rotate_left
                                        · simp only [Act.put, List.setIfInBounds_toArray, List.set_cons_zero, List.set_cons_succ, i64_w, i32_w]
                                          rfl
                                        refine done_ (done_of HT_.out (by kernel_rfl)) ?_
                                        try go_wp2
                                        go_ret2
                                        exact ⟨by first | rfl | (simp [errW_none, errW_some] <;> rfl) | (simp [*, errW_none, errW_some] <;> rfl), by repeat (first | (with_reducible first | exact HB.out | apply below_alloc | apply pw_below_drewN | apply below_drew1 | refine below_set ?_ GE107.out) | exact HB.out)⟩
                                      · rw [if_neg c43] at H
                                        have c43b0 : decide (32768 < (t113 + (((rd_T31 l1 x6_1).f4).size : Int) + ((x0_1.size - (t115 : Int).toNat : Nat) : Int))) = false := decide_eq_false c43
                                        clear c43
                                        have H' := Aside0.mk H
                                        clear H
                                        try go_wp2
                                        have n0_ := Aside0.mk (blk_drew BK107.out)
                                        have n1_ := Aside0.mk (Kd.C_drew HR111.out)
                                        have n2_ := Aside0.mk (below_drew1 HB.out)
                                        clear BK107
                                        clear HR111
                                        clear HB
                                        have BK107 := n0_
                                        have HR111 := n1_
                                        have HB := n2_
                                        clear n0_ n1_ n2_
                                        refine start_ (n := 11) (S := fun w' => w'.cell? ⟨gb107, 0, none⟩ = some (.int .i64 ((rd_T31 l1 x6_1).f0)) ∧ w'.cell? ⟨gb107, 1, none⟩ = some (.int .i64 ((rd_T31 l1 x6_1).f1)) ∧ w'.cell? ⟨gb107, 2, none⟩ = some (.int .i64 ((rd_T31 l1 x6_1).f2)) ∧ w'.cell? ⟨gb107, 3, none⟩ = some (.int .i64 ((rd_T31 l1 x6_1).f3)) ∧ w'.cell? ⟨gb107, 4, none⟩ = some (.string ((rd_T31 l1 x6_1).f4))) (ds := []) #[false, false, false, false, false, false, false, false, false, false, false] (by kernel_rfl) rfl rfl ⟨(blk_cell BK107.out 0).trans rfl, (blk_cell BK107.out 1).trans rfl, (blk_cell BK107.out 2).trans rfl, (blk_cell BK107.out 3).trans rfl, (blk_cell BK107.out 4).trans rfl⟩ (fun hHeld => ?_); refine with_tabW parlanceref07_Apply.tab15 parlanceref07_Apply.bits15 (fun HT_ HW_ => ?_)
                                        generalize wc.drew = w45 at BK107 HR111 HB hHeld ⊢
                                        refine pure_ (i := 0) (N := some 63) (v := ?_) (a' := ?_) #[true, false, false, false, false, false, false, false, false, false, false] rfl rfl (any_of HT_.out (by kernel_rfl)) (fun _ _ _ h => h) (Or.inl ⟨by rfl, ?_⟩) ?_ ?_
                                        rotate_left
                                        · intro w'
                                          go_simp
                                          with_reducible rfl
                                        rotate_left
                                        · simp only [Act.put, List.setIfInBounds_toArray, List.set_cons_zero, List.set_cons_succ, i64_w, i32_w]
                                          rfl
                                        refine pure_ (i := 1) (N := some 64) (v := ?_) (a' := ?_) #[true, true, false, false, false, false, false, false, false, false, false] rfl rfl (any_of HT_.out (by kernel_rfl)) (fun _ _ _ h => h) (Or.inl ⟨by rfl, ?_⟩) ?_ ?_
                                        rotate_left
                                        · intro w'
                                          go_simp
                                          with_reducible rfl
                                        rotate_left
                                        · simp only [Act.put, List.setIfInBounds_toArray, List.set_cons_zero, List.set_cons_succ, i64_w, i32_w]
                                          rfl
                                        refine pure_ (i := 2) (N := some 65) (v := ?_) (a' := ?_) #[true, true, true, false, false, false, false, false, false, false, false] rfl rfl (any_of HT_.out (by kernel_rfl)) (fun _ _ _ h => h) (Or.inl ⟨by rfl, ?_⟩) ?_ ?_
                                        rotate_left
                                        · intro w'
                                          go_simp
                                          with_reducible rfl
                                        rotate_left
                                        · simp only [Act.put, List.setIfInBounds_toArray, List.set_cons_zero, List.set_cons_succ, i64_w, i32_w]
                                          rfl
                                        refine pure_ (i := 3) (N := some 66) (v := ?_) (a' := ?_) #[true, true, true, true, false, false, false, false, false, false, false] rfl rfl (any_of HT_.out (by kernel_rfl)) (fun _ _ _ h => h) (Or.inl ⟨by rfl, ?_⟩) ?_ ?_
                                        rotate_left
                                        · intro w'
                                          go_simp
                                          with_reducible rfl
                                        rotate_left
                                        · simp only [Act.put, List.setIfInBounds_toArray, List.set_cons_zero, List.set_cons_succ, i64_w, i32_w]
                                          rfl
                                        refine pure_ (i := 6) (N := some 69) (v := ?_) (a' := ?_) #[true, true, true, true, false, false, true, false, false, false, false] rfl rfl (any_of HT_.out (by kernel_rfl)) (fun _ _ _ h => h) (Or.inl ⟨by rfl, ?_⟩) ?_ ?_
                                        rotate_left
                                        · intro w'
                                          go_simp
                                          with_reducible rfl
                                        rotate_left
                                        · simp only [Act.put, List.setIfInBounds_toArray, List.set_cons_zero, List.set_cons_succ, i64_w, i32_w]
                                          rfl
                                        refine pure_ (i := 7) (N := some 70) (v := ?_) (a' := ?_) #[true, true, true, true, false, false, true, true, false, false, false] rfl rfl (any_of HT_.out (by kernel_rfl)) (fun _ _ _ h => h) (Or.inl ⟨by rfl, ?_⟩) ?_ ?_
                                        rotate_left
                                        · intro w'
                                          go_simp
                                          with_reducible rfl
                                        rotate_left
                                        · simp only [Act.put, List.setIfInBounds_toArray, List.set_cons_zero, List.set_cons_succ, i64_w, i32_w]
                                          rfl
                                        refine pure_ (i := 8) (N := some 71) (v := ?_) (a' := ?_) #[true, true, true, true, false, false, true, true, true, false, false] rfl rfl (any_of HT_.out (by kernel_rfl)) (fun _ _ _ h => h) (Or.inl ⟨by rfl, ?_⟩) ?_ ?_
                                        rotate_left
                                        · intro w'
                                          go_simp
                                          with_reducible rfl
                                        rotate_left
                                        · simp only [Act.put, List.setIfInBounds_toArray, List.set_cons_zero, List.set_cons_succ, i64_w, i32_w]
                                          rfl
                                        refine take_ (i := 4) (N := some 67) (v := ?_) (a' := ?_) #[true, true, true, true, true, false, true, true, true, false, false] rfl rfl (take_ofW HT_.out HW_.out (by kernel_rfl)) (fun _ _ _ h => h) (Or.inl ⟨by rfl, ?_⟩) hHeld ?_ ?_
                                        rotate_left
                                        · rintro w' ⟨s0, s1, s2, s3, s4⟩
                                          go_simp
                                          with_reducible rfl
                                        rotate_left
                                        · simp only [Act.put, List.setIfInBounds_toArray, List.set_cons_zero, List.set_cons_succ, i64_w, i32_w]
                                          rfl
                                        refine pure_ (i := 5) (N := some 68) (v := ?_) (a' := ?_) #[true, true, true, true, true, true, true, true, true, false, false] rfl rfl (any_of HT_.out (by kernel_rfl)) (fun _ _ _ h => h) (Or.inl ⟨by rfl, ?_⟩) ?_ ?_
                                        rotate_left
                                        · intro w'
                                          go_simp
                                          with_reducible rfl
                                        rotate_left
                                        · simp only [Act.put, List.setIfInBounds_toArray, List.set_cons_zero, List.set_cons_succ, i64_w, i32_w]
                                          rfl
                                        refine pure_ (i := 9) (N := some 72) (v := ?_) (a' := ?_) #[true, true, true, true, true, true, true, true, true, true, false] rfl rfl (any_of HT_.out (by kernel_rfl)) (fun _ _ _ h => h) (Or.inl ⟨by rfl, ?_⟩) ?_ ?_
                                        rotate_left
                                        · intro w'
                                          go_simp
                                          with_reducible rfl
                                        rotate_left
                                        · simp only [Act.put, List.setIfInBounds_toArray, List.set_cons_zero, List.set_cons_succ, i64_w, i32_w]
                                          rfl
                                        refine pure_ (i := 10) (N := some 0) (v := ?_) (a' := ?_) #[true, true, true, true, true, true, true, true, true, true, true] rfl rfl (any_of HT_.out (by kernel_rfl)) (fun _ _ _ h => h) (Or.inl ⟨by rfl, ?_⟩) ?_ ?_
                                        rotate_left
                                        · intro w'
                                          go_simp
                                          with_reducible rfl
                                        rotate_left
                                        · simp only [Act.put, List.setIfInBounds_toArray, List.set_cons_zero, List.set_cons_succ, i64_w, i32_w]
                                          rfl
                                        refine done_ (done_of HT_.out (by kernel_rfl)) ?_
                                        try go_wp2
                                        go_roundg kj22
                                        case measure => have := HK1.out; have := HJ22.out; omega
                                        case rel => exact ⟨(((x0_1.extract 0 (t113 : Int).toNat) ++ ((rd_T31 l1 x6_1).f4)) ++ (x0_1.extract (t115 : Int).toNat x0_1.size)), (wrap64 (x6_1 + 1)), (by first | rfl | (simp; done) | (simp [*]; done)), (by first | rfl | (simp; done) | (simp [*]; done)), H', ⟨by have := HK1.out; have := HJ22.out; omega⟩, ⟨by repeat (first | (with_reducible first | exact HB.out | apply below_alloc | apply pw_below_drewN | apply below_drew1 | refine below_set ?_ GE107.out) | exact HB.out)⟩⟩
                                    · rw [if_neg c42] at H
                                      exact absurd H (by simp)
                                  · rw [if_neg c41] at H
                                    exact absurd H (by simp)
                                · rw [if_neg c40] at H
                                  exact absurd H (by simp)
                              · rw [if_neg c39] at H
                                exact absurd H (by simp)
                            · rw [if_neg c38] at H
                              exact absurd H (by simp)
                          · rw [if_neg c37] at H
                            exact absurd H (by simp)
              · rw [if_neg c12] at H
                exact absurd H (by simp)
            · rw [if_neg c11] at H
              exact absurd H (by simp)
          · rw [if_neg c10] at H
            have c10b0 : decide (x6_1 < (l1.length : Int)) = false := decide_eq_false c10
            clear c10
            simp only [Option.some.injEq, Prod.mk.injEq] at H
            obtain ⟨rfl, rfl⟩ := H
            go_wp2
            go_ret2
            exact ⟨by first | rfl | (simp [errW_none, errW_some] <;> rfl) | (simp [*, errW_none, errW_some] <;> rfl), by repeat (first | (with_reducible first | exact HB.out | apply below_alloc | apply pw_below_drewN | apply below_drew1) | exact HB.out)⟩
  · rw [if_neg c3] at H
    exact absurd H (by simp)

/-! ### parlancelaw07_TextApplies: function 3 -/
mutual
def parlancelaw07_TextApplies.j0 : Nat → List (S31) → List (S31) → Bool → Option (Bool)
  | 0, _, _, _ => none
  | k + 1, x1, x5, x44 => if x44 = true then (some false) else (parlancelaw07_TextApplies.l0 k x1 x5 0)
def parlancelaw07_TextApplies.l0 : Nat → List (S31) → List (S31) → Int → Option (Bool)
  | 0, _, _, _ => none
  | k + 1, x1, x5, x10 => if x10 < (x5.length : Int) then (if 0 ≤ x10 then (if x10 < (x1.length : Int) then (if (!(((rd_T31 x5 x10).f0) == ((rd_T31 x1 x10).f0)) || (!(((rd_T31 x5 x10).f1) == ((rd_T31 x1 x10).f1)) || (!(((rd_T31 x5 x10).f2) == ((rd_T31 x1 x10).f2)) || (!(((rd_T31 x5 x10).f3) == ((rd_T31 x1 x10).f3)) || (!((((rd_T31 x5 x10).f4).toList) == (((rd_T31 x1 x10).f4).toList))))))) = true then (some false) else (parlancelaw07_TextApplies.l0 k x1 x5 (wrap64 (x10 + 1)))) else (none)) else (none)) else (some true)
end
def parlancelaw07_TextApplies.f (k : Nat) (a0 : ByteArray) (l1 : List (S31)) : Option (Bool) := (parlancelaw07_alive.f k).bind fun t117 => (if t117 = true then ((parlancelaw07_great.f k a0 l1).bind fun t118 => (if t118 = true then (some true) else ((parlanceref00_CopyEdits.f l1).bind fun t119 => ((text_Apply.f k a0 t119).bind fun bt122 => ((parlanceref07_Apply.f k a0 l1).bind fun bt124 => (if bt122.1.toList = bt124.1.toList then (if bt122.2 = bt124.2 then (parlancelaw07_TextApplies.j0 k l1 t119 ((t119.length : Int) != (l1.length : Int))) else (parlancelaw07_TextApplies.j0 k l1 t119 true)) else (parlancelaw07_TextApplies.j0 k l1 t119 true))))))) else (some false))
theorem parlancelaw07_TextApplies.mono_l : ∀ k, (∀ y0 y1 y2, LeO (parlancelaw07_TextApplies.j0 k y0 y1 y2) (parlancelaw07_TextApplies.j0 (k + 1) y0 y1 y2)) ∧ (∀ y0 y1 y2, LeO (parlancelaw07_TextApplies.l0 k y0 y1 y2) (parlancelaw07_TextApplies.l0 (k + 1) y0 y1 y2))
  | 0 => ⟨fun _ _ _ r h => by simp [parlancelaw07_TextApplies.j0] at h, fun _ _ _ r h => by simp [parlancelaw07_TextApplies.l0] at h⟩
  | k + 1 => by
    obtain ⟨ih0, ih1⟩ := parlancelaw07_TextApplies.mono_l k
    refine ⟨?_, ?_⟩
    · intro y0 y1 y2
      unfold parlancelaw07_TextApplies.j0
      repeat' first
      | (with_reducible exact ih0 _ _ _)
      | (with_reducible exact ih1 _ _ _)
      | (with_reducible exact parlancelaw07_alive.mono _)
      | (with_reducible exact parlancelaw07_great.mono _ _ _)
      | (with_reducible exact parlanceref07_Apply.mono _ _ _)
      | (with_reducible exact text_Apply.mono _ _ _)
      | (with_reducible exact LeO.refl _)
      | (with_reducible exact LeO.none _)
      | (with_reducible refine LeO.ite ?_ ?_)
      | (with_reducible refine LeO.bind ?_ (fun _ => ?_))
      | exact ih0 _ _ _
      | exact ih1 _ _ _
      | exact parlancelaw07_alive.mono _
      | exact parlancelaw07_great.mono _ _ _
      | exact parlanceref07_Apply.mono _ _ _
      | exact text_Apply.mono _ _ _
      | exact LeO.none _
      | refine LeO.ite ?_ ?_
      | refine LeO.bind ?_ (fun _ => ?_)
    · intro y0 y1 y2
      unfold parlancelaw07_TextApplies.l0
      repeat' first
      | (with_reducible exact ih0 _ _ _)
      | (with_reducible exact ih1 _ _ _)
      | (with_reducible exact parlancelaw07_alive.mono _)
      | (with_reducible exact parlancelaw07_great.mono _ _ _)
      | (with_reducible exact parlanceref07_Apply.mono _ _ _)
      | (with_reducible exact text_Apply.mono _ _ _)
      | (with_reducible exact LeO.refl _)
      | (with_reducible exact LeO.none _)
      | (with_reducible refine LeO.ite ?_ ?_)
      | (with_reducible refine LeO.bind ?_ (fun _ => ?_))
      | exact ih0 _ _ _
      | exact ih1 _ _ _
      | exact parlancelaw07_alive.mono _
      | exact parlancelaw07_great.mono _ _ _
      | exact parlanceref07_Apply.mono _ _ _
      | exact text_Apply.mono _ _ _
      | exact LeO.none _
      | refine LeO.ite ?_ ?_
      | refine LeO.bind ?_ (fun _ => ?_)
theorem parlancelaw07_TextApplies.mono : ∀ a0 a1 k, LeO (parlancelaw07_TextApplies.f k a0 a1) (parlancelaw07_TextApplies.f (k + 1) a0 a1) := by
  intro a0 a1 k
  obtain ⟨ih0, ih1⟩ := parlancelaw07_TextApplies.mono_l k
  unfold parlancelaw07_TextApplies.f
  repeat' first
      | (with_reducible exact ih0 _ _ _)
      | (with_reducible exact ih1 _ _ _)
      | (with_reducible exact parlancelaw07_alive.mono _)
      | (with_reducible exact parlancelaw07_great.mono _ _ _)
      | (with_reducible exact parlanceref07_Apply.mono _ _ _)
      | (with_reducible exact text_Apply.mono _ _ _)
      | (with_reducible exact LeO.refl _)
      | (with_reducible exact LeO.none _)
      | (with_reducible refine LeO.ite ?_ ?_)
      | (with_reducible refine LeO.bind ?_ (fun _ => ?_))
      | exact ih0 _ _ _
      | exact ih1 _ _ _
      | exact parlancelaw07_alive.mono _
      | exact parlancelaw07_great.mono _ _ _
      | exact parlanceref07_Apply.mono _ _ _
      | exact text_Apply.mono _ _ _
      | exact LeO.none _
      | refine LeO.ite ?_ ?_
      | refine LeO.bind ?_ (fun _ => ?_)
set_option maxHeartbeats 8000000 in
set_option maxRecDepth 100000 in
theorem parlancelaw07_TextApplies.calls (k : Nat) (a0 : ByteArray) (A1 : Option Addr) (c1 : Nat) (l1 : List (S31)) (r : Bool) (w : World) (hr1 : Kd.C k31 w A1 l1.length l1) (hc1 : l1.length ≤ c1) (hT : T8 w) (h : parlancelaw07_TextApplies.f k a0 l1 = some r) :
    Calls Tryd.prog 3 #[.string a0, .slice A1 l1.length c1] w fun e w' => e = .returned (.bool r) ∧ Below w.heap.size w w' := by
  have hu31 := Tryd.underlying31
  have HR1 := Aside0.mk hr1
  have HC1 := Aside0.mk hc1
  clear hr1 hc1
  have HB := Aside0.mk (Below.refl w.heap.size w)
  have HT := Aside0.mk hT
  clear hT
  have H : ((parlancelaw07_alive.f k).bind fun t117 => (if t117 = true then ((parlancelaw07_great.f k a0 l1).bind fun t118 => (if t118 = true then (some true) else ((parlanceref00_CopyEdits.f l1).bind fun t119 => ((text_Apply.f k a0 t119).bind fun bt122 => ((parlanceref07_Apply.f k a0 l1).bind fun bt124 => (if bt122.1.toList = bt124.1.toList then (if bt122.2 = bt124.2 then (parlancelaw07_TextApplies.j0 k l1 t119 ((t119.length : Int) != (l1.length : Int))) else (parlancelaw07_TextApplies.j0 k l1 t119 true)) else (parlancelaw07_TextApplies.j0 k l1 t119 true))))))) else (some false))) = some r := h
  clear h
  replace H := Option.bind_eq_some_iff.mp H
  obtain ⟨t117, A30, H⟩ := H
  replace H : (if t117 = true then ((parlancelaw07_great.f k a0 l1).bind fun t118 => (if t118 = true then (some true) else ((parlanceref00_CopyEdits.f l1).bind fun t119 => ((text_Apply.f k a0 t119).bind fun bt122 => ((parlanceref07_Apply.f k a0 l1).bind fun bt124 => (if bt122.1.toList = bt124.1.toList then (if bt122.2 = bt124.2 then (parlancelaw07_TextApplies.j0 k l1 t119 ((t119.length : Int) != (l1.length : Int))) else (parlancelaw07_TextApplies.j0 k l1 t119 true)) else (parlancelaw07_TextApplies.j0 k l1 t119 true))))))) else (some false)) = some r := H
  have A3 := Aside0.mk A30
  clear A30
  by_cases c4 : t117 = true
  · subst c4
    have H1 : ((parlancelaw07_great.f k a0 l1).bind fun t118 => (if t118 = true then (some true) else ((parlanceref00_CopyEdits.f l1).bind fun t119 => ((text_Apply.f k a0 t119).bind fun bt122 => ((parlanceref07_Apply.f k a0 l1).bind fun bt124 => (if bt122.1.toList = bt124.1.toList then (if bt122.2 = bt124.2 then (parlancelaw07_TextApplies.j0 k l1 t119 ((t119.length : Int) != (l1.length : Int))) else (parlancelaw07_TextApplies.j0 k l1 t119 true)) else (parlancelaw07_TextApplies.j0 k l1 t119 true))))))) = some r := by rw [if_pos rfl] at H; exact H
    clear H
    have H := H1
    clear H1
    replace H := Option.bind_eq_some_iff.mp H
    obtain ⟨t118, A50, H⟩ := H
    replace H : (if t118 = true then (some true) else ((parlanceref00_CopyEdits.f l1).bind fun t119 => ((text_Apply.f k a0 t119).bind fun bt122 => ((parlanceref07_Apply.f k a0 l1).bind fun bt124 => (if bt122.1.toList = bt124.1.toList then (if bt122.2 = bt124.2 then (parlancelaw07_TextApplies.j0 k l1 t119 ((t119.length : Int) != (l1.length : Int))) else (parlancelaw07_TextApplies.j0 k l1 t119 true)) else (parlancelaw07_TextApplies.j0 k l1 t119 true)))))) = some r := H
    have A5 := Aside0.mk A50
    clear A50
    by_cases c6 : t118 = true
    · subst c6
      have H1 : (some true) = some r := by rw [if_pos rfl] at H; exact H
      clear H
      have H := H1
      clear H1
      obtain rfl := Option.some.inj H
      go_enter Tryd.func3, Tryd.ntmps3
      go_wp2_with (first | (go_at_call 11; (with_reducible refine (parlancelaw07_alive.calls k  true _ ?side1 A3.out).mono ?_); (case side1 => exact T8_below HT.out (by repeat (first | (with_reducible first | exact HB.out | apply below_alloc | apply pw_below_drewN | apply below_drew1) | exact HB.out))); rintro e w7 ⟨rfl, hb⟩; have n0_ := Aside0.mk (below_step (by repeat (first | (with_reducible first | exact HB.out | apply below_alloc | apply pw_below_drewN | apply below_drew1) | exact HB.out)) hb); clear HB; have HB := n0_; clear n0_; (try clear hb); (try clear hb2); (try clear hk); (try clear hi)) | (go_at_call 12; (with_reducible refine (parlancelaw07_great.calls k a0 _ _ l1 true _ ?side1 ?side2 A5.out).mono ?_); (case side1 => repeat (first | exact (Kd.C_below HR1.out HB.out) | (with_reducible refine Kd.C_alloc ?_ _) | (with_reducible refine Kd.C_drewN ?_ _) | (with_reducible refine Kd.C_drew ?_))); (case side2 => exact HC1.out); rintro e w' ⟨rfl, ⟨nd, rfl⟩⟩; (try first | exact ⟨rfl, _, World.drewN_drewN _ _ _⟩ | exact ⟨rfl, _, Eq.trans (World.drewN_drewN _ _ _) (congrArg (World.drewN _) (Nat.add_assoc _ _ _))⟩)))
      repeat (go_quiet (first | (go_at_call 11; (with_reducible refine (parlancelaw07_alive.calls k  true _ ?side1 A3.out).mono ?_); (case side1 => exact T8_below HT.out (by repeat (first | (with_reducible first | exact HB.out | apply below_alloc | apply pw_below_drewN | apply below_drew1) | exact HB.out))); rintro e w7 ⟨rfl, hb⟩; have n0_ := Aside0.mk (below_step (by repeat (first | (with_reducible first | exact HB.out | apply below_alloc | apply pw_below_drewN | apply below_drew1) | exact HB.out)) hb); clear HB; have HB := n0_; clear n0_; (try clear hb); (try clear hb2); (try clear hk); (try clear hi)) | (go_at_call 12; (with_reducible refine (parlancelaw07_great.calls k a0 _ _ l1 true _ ?side1 ?side2 A5.out).mono ?_); (case side1 => repeat (first | exact (Kd.C_below HR1.out HB.out) | (with_reducible refine Kd.C_alloc ?_ _) | (with_reducible refine Kd.C_drewN ?_ _) | (with_reducible refine Kd.C_drew ?_))); (case side2 => exact HC1.out); rintro e w' ⟨rfl, ⟨nd, rfl⟩⟩; (try first | exact ⟨rfl, _, World.drewN_drewN _ _ _⟩ | exact ⟨rfl, _, Eq.trans (World.drewN_drewN _ _ _) (congrArg (World.drewN _) (Nat.add_assoc _ _ _))⟩))); try go_wp2_with (first | (go_at_call 11; (with_reducible refine (parlancelaw07_alive.calls k  true _ ?side1 A3.out).mono ?_); (case side1 => exact T8_below HT.out (by repeat (first | (with_reducible first | exact HB.out | apply below_alloc | apply pw_below_drewN | apply below_drew1) | exact HB.out))); rintro e w7 ⟨rfl, hb⟩; have n0_ := Aside0.mk (below_step (by repeat (first | (with_reducible first | exact HB.out | apply below_alloc | apply pw_below_drewN | apply below_drew1) | exact HB.out)) hb); clear HB; have HB := n0_; clear n0_; (try clear hb); (try clear hb2); (try clear hk); (try clear hi)) | (go_at_call 12; (with_reducible refine (parlancelaw07_great.calls k a0 _ _ l1 true _ ?side1 ?side2 A5.out).mono ?_); (case side1 => repeat (first | exact (Kd.C_below HR1.out HB.out) | (with_reducible refine Kd.C_alloc ?_ _) | (with_reducible refine Kd.C_drewN ?_ _) | (with_reducible refine Kd.C_drew ?_))); (case side2 => exact HC1.out); rintro e w' ⟨rfl, ⟨nd, rfl⟩⟩; (try first | exact ⟨rfl, _, World.drewN_drewN _ _ _⟩ | exact ⟨rfl, _, Eq.trans (World.drewN_drewN _ _ _) (congrArg (World.drewN _) (Nat.add_assoc _ _ _))⟩))))
      go_ret
      exact ⟨by first | rfl | (simp [errW_none, errW_some] <;> rfl) | (simp [*, errW_none, errW_some] <;> rfl), by repeat (first | (with_reducible first | exact HB.out | apply below_alloc | apply pw_below_drewN | apply below_drew1) | exact HB.out)⟩
    · replace c6 := Bool.eq_false_iff.mpr c6
      subst c6
      have H1 : ((parlanceref00_CopyEdits.f l1).bind fun t119 => ((text_Apply.f k a0 t119).bind fun bt122 => ((parlanceref07_Apply.f k a0 l1).bind fun bt124 => (if bt122.1.toList = bt124.1.toList then (if bt122.2 = bt124.2 then (parlancelaw07_TextApplies.j0 k l1 t119 ((t119.length : Int) != (l1.length : Int))) else (parlancelaw07_TextApplies.j0 k l1 t119 true)) else (parlancelaw07_TextApplies.j0 k l1 t119 true))))) = some r := by rw [if_neg (show ¬ (false = true) by decide)] at H; exact H
      clear H
      have H := H1
      clear H1
      replace H := Option.bind_eq_some_iff.mp H
      obtain ⟨t119, A80, H⟩ := H
      replace H : ((text_Apply.f k a0 t119).bind fun bt122 => ((parlanceref07_Apply.f k a0 l1).bind fun bt124 => (if bt122.1.toList = bt124.1.toList then (if bt122.2 = bt124.2 then (parlancelaw07_TextApplies.j0 k l1 t119 ((t119.length : Int) != (l1.length : Int))) else (parlancelaw07_TextApplies.j0 k l1 t119 true)) else (parlancelaw07_TextApplies.j0 k l1 t119 true)))) = some r := H
      have A8 := Aside0.mk A80
      clear A80
      replace H := Option.bind_eq_some_iff.mp H
      obtain ⟨⟨t122, t123⟩, A90, H⟩ := H
      replace H : ((parlanceref07_Apply.f k a0 l1).bind fun bt124 => (if t122.toList = bt124.1.toList then (if t123 = bt124.2 then (parlancelaw07_TextApplies.j0 k l1 t119 ((t119.length : Int) != (l1.length : Int))) else (parlancelaw07_TextApplies.j0 k l1 t119 true)) else (parlancelaw07_TextApplies.j0 k l1 t119 true))) = some r := H
      have A9 := Aside0.mk A90
      clear A90
      replace H := Option.bind_eq_some_iff.mp H
      obtain ⟨⟨t124, t125⟩, A100, H⟩ := H
      replace H : (if t122.toList = t124.toList then (if t123 = t125 then (parlancelaw07_TextApplies.j0 k l1 t119 ((t119.length : Int) != (l1.length : Int))) else (parlancelaw07_TextApplies.j0 k l1 t119 true)) else (parlancelaw07_TextApplies.j0 k l1 t119 true)) = some r := H
      have A10 := Aside0.mk A100
      clear A100
      have HC11 := Aside0.mk H
      clear H
      go_enter Tryd.func3, Tryd.ntmps3
      go_upto_region 8 with (first | (go_at_call 11; (with_reducible refine (parlancelaw07_alive.calls k  true _ ?side1 A3.out).mono ?_); (case side1 => exact T8_below HT.out (by repeat (first | (with_reducible first | exact HB.out | apply below_alloc | apply pw_below_drewN | apply below_drew1) | exact HB.out))); rintro e w12 ⟨rfl, hb⟩; have n0_ := Aside0.mk (below_step (by repeat (first | (with_reducible first | exact HB.out | apply below_alloc | apply pw_below_drewN | apply below_drew1) | exact HB.out)) hb); clear HB; have HB := n0_; clear n0_; (try clear hb); (try clear hb2); (try clear hk); (try clear hi)) | (go_at_call 12; (with_reducible refine (parlancelaw07_great.calls k a0 _ _ l1 false _ ?side1 ?side2 A5.out).mono ?_); (case side1 => repeat (first | exact (Kd.C_below HR1.out HB.out) | (with_reducible refine Kd.C_alloc ?_ _) | (with_reducible refine Kd.C_drewN ?_ _) | (with_reducible refine Kd.C_drew ?_))); (case side2 => exact HC1.out); rintro e w' ⟨rfl, ⟨nd, rfl⟩⟩; (try first | exact ⟨rfl, _, World.drewN_drewN _ _ _⟩ | exact ⟨rfl, _, Eq.trans (World.drewN_drewN _ _ _) (congrArg (World.drewN _) (Nat.add_assoc _ _ _))⟩)) | (go_at_call 13; (with_reducible refine (parlanceref00_CopyEdits.calls _ _ l1 t119 _ ?side1 ?side2 A8.out).mono ?_); (case side1 => repeat (first | exact (Kd.C_below HR1.out (by repeat (first | (with_reducible first | exact HB.out | apply below_alloc | apply pw_below_drewN | apply below_drew1) | exact HB.out))) | (with_reducible refine Kd.C_alloc ?_ _) | (with_reducible refine Kd.C_drewN ?_ _) | (with_reducible refine Kd.C_drew ?_))); (case side2 => exact HC1.out); rintro e w13 ⟨v120, rfl, ho0, hb⟩; have n0_ := Aside0.mk (Kd.R_lower ho0 (below_size (by repeat (first | (with_reducible first | exact HB.out | apply below_alloc | apply pw_below_drewN | apply below_drew1) | exact HB.out)))); have n1_ := Aside0.mk (below_step (by repeat (first | (with_reducible first | exact HB.out | apply below_alloc | apply pw_below_drewN | apply below_drew1) | exact HB.out)) hb); clear HB; have HO121 := n0_; have HB := n1_; clear n0_ n1_; (try clear hb); (try clear hb2); (try clear hk); (try clear hi); (try clear ho0); obtain ⟨Ao14, co14, eo14⟩ := Kd.R_slice HO121.out; subst eo14) | (go_at_call 14; (with_reducible refine (text_Apply.calls k a0 _ _ t119 t122 t123 _ ?side1 ?side2 ?side3 A9.out).mono ?_); (case side1 => repeat (first | exact (Kd.R_reads' HO121.out).2.2 | (with_reducible refine Kd.C_alloc ?_ _) | (with_reducible refine Kd.C_drewN ?_ _) | (with_reducible refine Kd.C_drew ?_))); (case side2 => exact (Kd.R_reads' HO121.out).2.1); (case side3 => exact T8_below HT.out (by repeat (first | (with_reducible first | exact HB.out | apply below_alloc | apply pw_below_drewN | apply below_drew1) | exact HB.out))); rintro e w15 ⟨rfl, hb⟩; have n0_ := Aside0.mk (Kd.R_below (by (with_reducible repeat (first | apply Kd.R_alloc | apply Kd.R_drewN | apply Kd.R_drew)); exact HO121.out) hb); have n1_ := Aside0.mk (below_step (by repeat (first | (with_reducible first | exact HB.out | apply below_alloc | apply pw_below_drewN | apply below_drew1) | exact HB.out)) hb); clear HO121; clear HB; have HO121 := n0_; have HB := n1_; clear n0_ n1_; (try clear hb); (try clear hb2); (try clear hk); (try clear hi)) | (go_at_call 15; (with_reducible refine (parlanceref07_Apply.calls k a0 _ _ l1 t124 t125 _ ?side1 ?side2 A10.out).mono ?_); (case side1 => repeat (first | exact (Kd.C_below HR1.out HB.out) | (with_reducible refine Kd.C_alloc ?_ _) | (with_reducible refine Kd.C_drewN ?_ _) | (with_reducible refine Kd.C_drew ?_))); (case side2 => exact HC1.out); rintro e w16 ⟨rfl, hb⟩; have n0_ := Aside0.mk (Kd.R_below (by (with_reducible repeat (first | apply Kd.R_alloc | apply Kd.R_drewN | apply Kd.R_drew)); exact HO121.out) hb); have n1_ := Aside0.mk (below_step (by repeat (first | (with_reducible first | exact HB.out | apply below_alloc | apply pw_below_drewN | apply below_drew1) | exact HB.out)) hb); clear HO121; clear HB; have HO121 := n0_; have HB := n1_; clear n0_ n1_; (try clear hb); (try clear hb2); (try clear hk); (try clear hi)))
      repeat (go_quiet (first | (go_at_call 11; (with_reducible refine (parlancelaw07_alive.calls k  true _ ?side1 A3.out).mono ?_); (case side1 => exact T8_below HT.out (by repeat (first | (with_reducible first | exact HB.out | apply below_alloc | apply pw_below_drewN | apply below_drew1) | exact HB.out))); rintro e w12 ⟨rfl, hb⟩; have n0_ := Aside0.mk (below_step (by repeat (first | (with_reducible first | exact HB.out | apply below_alloc | apply pw_below_drewN | apply below_drew1) | exact HB.out)) hb); clear HB; have HB := n0_; clear n0_; (try clear hb); (try clear hb2); (try clear hk); (try clear hi)) | (go_at_call 12; (with_reducible refine (parlancelaw07_great.calls k a0 _ _ l1 false _ ?side1 ?side2 A5.out).mono ?_); (case side1 => repeat (first | exact (Kd.C_below HR1.out HB.out) | (with_reducible refine Kd.C_alloc ?_ _) | (with_reducible refine Kd.C_drewN ?_ _) | (with_reducible refine Kd.C_drew ?_))); (case side2 => exact HC1.out); rintro e w' ⟨rfl, ⟨nd, rfl⟩⟩; (try first | exact ⟨rfl, _, World.drewN_drewN _ _ _⟩ | exact ⟨rfl, _, Eq.trans (World.drewN_drewN _ _ _) (congrArg (World.drewN _) (Nat.add_assoc _ _ _))⟩)) | (go_at_call 13; (with_reducible refine (parlanceref00_CopyEdits.calls _ _ l1 t119 _ ?side1 ?side2 A8.out).mono ?_); (case side1 => repeat (first | exact (Kd.C_below HR1.out (by repeat (first | (with_reducible first | exact HB.out | apply below_alloc | apply pw_below_drewN | apply below_drew1) | exact HB.out))) | (with_reducible refine Kd.C_alloc ?_ _) | (with_reducible refine Kd.C_drewN ?_ _) | (with_reducible refine Kd.C_drew ?_))); (case side2 => exact HC1.out); rintro e w13 ⟨v120, rfl, ho0, hb⟩; have n0_ := Aside0.mk (Kd.R_lower ho0 (below_size (by repeat (first | (with_reducible first | exact HB.out | apply below_alloc | apply pw_below_drewN | apply below_drew1) | exact HB.out)))); have n1_ := Aside0.mk (below_step (by repeat (first | (with_reducible first | exact HB.out | apply below_alloc | apply pw_below_drewN | apply below_drew1) | exact HB.out)) hb); clear HB; have HO121 := n0_; have HB := n1_; clear n0_ n1_; (try clear hb); (try clear hb2); (try clear hk); (try clear hi); (try clear ho0); obtain ⟨Ao14, co14, eo14⟩ := Kd.R_slice HO121.out; subst eo14) | (go_at_call 14; (with_reducible refine (text_Apply.calls k a0 _ _ t119 t122 t123 _ ?side1 ?side2 ?side3 A9.out).mono ?_); (case side1 => repeat (first | exact (Kd.R_reads' HO121.out).2.2 | (with_reducible refine Kd.C_alloc ?_ _) | (with_reducible refine Kd.C_drewN ?_ _) | (with_reducible refine Kd.C_drew ?_))); (case side2 => exact (Kd.R_reads' HO121.out).2.1); (case side3 => exact T8_below HT.out (by repeat (first | (with_reducible first | exact HB.out | apply below_alloc | apply pw_below_drewN | apply below_drew1) | exact HB.out))); rintro e w15 ⟨rfl, hb⟩; have n0_ := Aside0.mk (Kd.R_below (by (with_reducible repeat (first | apply Kd.R_alloc | apply Kd.R_drewN | apply Kd.R_drew)); exact HO121.out) hb); have n1_ := Aside0.mk (below_step (by repeat (first | (with_reducible first | exact HB.out | apply below_alloc | apply pw_below_drewN | apply below_drew1) | exact HB.out)) hb); clear HO121; clear HB; have HO121 := n0_; have HB := n1_; clear n0_ n1_; (try clear hb); (try clear hb2); (try clear hk); (try clear hi)) | (go_at_call 15; (with_reducible refine (parlanceref07_Apply.calls k a0 _ _ l1 t124 t125 _ ?side1 ?side2 A10.out).mono ?_); (case side1 => repeat (first | exact (Kd.C_below HR1.out HB.out) | (with_reducible refine Kd.C_alloc ?_ _) | (with_reducible refine Kd.C_drewN ?_ _) | (with_reducible refine Kd.C_drew ?_))); (case side2 => exact HC1.out); rintro e w16 ⟨rfl, hb⟩; have n0_ := Aside0.mk (Kd.R_below (by (with_reducible repeat (first | apply Kd.R_alloc | apply Kd.R_drewN | apply Kd.R_drew)); exact HO121.out) hb); have n1_ := Aside0.mk (below_step (by repeat (first | (with_reducible first | exact HB.out | apply below_alloc | apply pw_below_drewN | apply below_drew1) | exact HB.out)) hb); clear HO121; clear HB; have HO121 := n0_; have HB := n1_; clear n0_ n1_; (try clear hb); (try clear hb2); (try clear hk); (try clear hi))); go_upto_region 8 with (first | (go_at_call 11; (with_reducible refine (parlancelaw07_alive.calls k  true _ ?side1 A3.out).mono ?_); (case side1 => exact T8_below HT.out (by repeat (first | (with_reducible first | exact HB.out | apply below_alloc | apply pw_below_drewN | apply below_drew1) | exact HB.out))); rintro e w12 ⟨rfl, hb⟩; have n0_ := Aside0.mk (below_step (by repeat (first | (with_reducible first | exact HB.out | apply below_alloc | apply pw_below_drewN | apply below_drew1) | exact HB.out)) hb); clear HB; have HB := n0_; clear n0_; (try clear hb); (try clear hb2); (try clear hk); (try clear hi)) | (go_at_call 12; (with_reducible refine (parlancelaw07_great.calls k a0 _ _ l1 false _ ?side1 ?side2 A5.out).mono ?_); (case side1 => repeat (first | exact (Kd.C_below HR1.out HB.out) | (with_reducible refine Kd.C_alloc ?_ _) | (with_reducible refine Kd.C_drewN ?_ _) | (with_reducible refine Kd.C_drew ?_))); (case side2 => exact HC1.out); rintro e w' ⟨rfl, ⟨nd, rfl⟩⟩; (try first | exact ⟨rfl, _, World.drewN_drewN _ _ _⟩ | exact ⟨rfl, _, Eq.trans (World.drewN_drewN _ _ _) (congrArg (World.drewN _) (Nat.add_assoc _ _ _))⟩)) | (go_at_call 13; (with_reducible refine (parlanceref00_CopyEdits.calls _ _ l1 t119 _ ?side1 ?side2 A8.out).mono ?_); (case side1 => repeat (first | exact (Kd.C_below HR1.out (by repeat (first | (with_reducible first | exact HB.out | apply below_alloc | apply pw_below_drewN | apply below_drew1) | exact HB.out))) | (with_reducible refine Kd.C_alloc ?_ _) | (with_reducible refine Kd.C_drewN ?_ _) | (with_reducible refine Kd.C_drew ?_))); (case side2 => exact HC1.out); rintro e w13 ⟨v120, rfl, ho0, hb⟩; have n0_ := Aside0.mk (Kd.R_lower ho0 (below_size (by repeat (first | (with_reducible first | exact HB.out | apply below_alloc | apply pw_below_drewN | apply below_drew1) | exact HB.out)))); have n1_ := Aside0.mk (below_step (by repeat (first | (with_reducible first | exact HB.out | apply below_alloc | apply pw_below_drewN | apply below_drew1) | exact HB.out)) hb); clear HB; have HO121 := n0_; have HB := n1_; clear n0_ n1_; (try clear hb); (try clear hb2); (try clear hk); (try clear hi); (try clear ho0); obtain ⟨Ao14, co14, eo14⟩ := Kd.R_slice HO121.out; subst eo14) | (go_at_call 14; (with_reducible refine (text_Apply.calls k a0 _ _ t119 t122 t123 _ ?side1 ?side2 ?side3 A9.out).mono ?_); (case side1 => repeat (first | exact (Kd.R_reads' HO121.out).2.2 | (with_reducible refine Kd.C_alloc ?_ _) | (with_reducible refine Kd.C_drewN ?_ _) | (with_reducible refine Kd.C_drew ?_))); (case side2 => exact (Kd.R_reads' HO121.out).2.1); (case side3 => exact T8_below HT.out (by repeat (first | (with_reducible first | exact HB.out | apply below_alloc | apply pw_below_drewN | apply below_drew1) | exact HB.out))); rintro e w15 ⟨rfl, hb⟩; have n0_ := Aside0.mk (Kd.R_below (by (with_reducible repeat (first | apply Kd.R_alloc | apply Kd.R_drewN | apply Kd.R_drew)); exact HO121.out) hb); have n1_ := Aside0.mk (below_step (by repeat (first | (with_reducible first | exact HB.out | apply below_alloc | apply pw_below_drewN | apply below_drew1) | exact HB.out)) hb); clear HO121; clear HB; have HO121 := n0_; have HB := n1_; clear n0_ n1_; (try clear hb); (try clear hb2); (try clear hk); (try clear hi)) | (go_at_call 15; (with_reducible refine (parlanceref07_Apply.calls k a0 _ _ l1 t124 t125 _ ?side1 ?side2 A10.out).mono ?_); (case side1 => repeat (first | exact (Kd.C_below HR1.out HB.out) | (with_reducible refine Kd.C_alloc ?_ _) | (with_reducible refine Kd.C_drewN ?_ _) | (with_reducible refine Kd.C_drew ?_))); (case side2 => exact HC1.out); rintro e w16 ⟨rfl, hb⟩; have n0_ := Aside0.mk (Kd.R_below (by (with_reducible repeat (first | apply Kd.R_alloc | apply Kd.R_drewN | apply Kd.R_drew)); exact HO121.out) hb); have n1_ := Aside0.mk (below_step (by repeat (first | (with_reducible first | exact HB.out | apply below_alloc | apply pw_below_drewN | apply below_drew1) | exact HB.out)) hb); clear HO121; clear HB; have HO121 := n0_; have HB := n1_; clear n0_ n1_; (try clear hb); (try clear hb2); (try clear hk); (try clear hi))))
      (try simp only [Act.put, List.setIfInBounds_toArray, List.set_cons_zero, List.set_cons_succ])
      go_cut [44] (fun v44 wc => ∃ (kq : Nat) (x44_10 : Bool), v44 = .bool x44_10 ∧ Aside0 (parlancelaw07_TextApplies.j0 kq l1 t119 x44_10 = some r) ∧ Aside0 (kq ≤ k) ∧ Aside0 (Kd.R k31 31 wc w.heap.size (fun _ => True) (.slice Ao14 t119.length co14) t119) ∧ Aside0 (Below w.heap.size w wc))
      case first =>
        have H := HC11.out
        clear HC11
        by_cases c17 : t122.toList = t124.toList
        · rw [if_pos c17] at H
          have c17b0 : (t122.toList == t124.toList) = true := beq_iff_eq.mpr c17
          have c17b1 : (t122.toList != t124.toList) = false := bne_eq_false_iff_eq.mpr c17
          clear c17
          (first | rw [c17b0] | (simp only [i64_w, i32_w]; rw [c17b0]) | skip)
          by_cases c18 : t123 = t125
          · rw [if_pos c18] at H
            have c18b0 : (t123 == t125) = true := beq_iff_eq.mpr c18
            have c18b1 : (t123 != t125) = false := bne_eq_false_iff_eq.mpr c18
            clear c18
            have H' := Aside0.mk H
            clear H
            go_wp2
            repeat (go_quiet (fail); try go_wp2)
            go_meet
            case rel => exact ⟨_, (((t119.length : Int) != (l1.length : Int))), (by first | rfl | (simp; done) | (simp [*]; done)), H', ⟨by first | omega | exact Nat.le_refl _⟩, ⟨by (with_reducible repeat (first | apply Kd.R_alloc | apply Kd.R_drewN | apply Kd.R_drew)); exact HO121.out⟩, ⟨by repeat (first | (with_reducible first | exact HB.out | apply below_alloc | apply pw_below_drewN | apply below_drew1) | exact HB.out)⟩⟩
          · rw [if_neg c18] at H
            have c18b0 : (t123 == t125) = false := beq_eq_false_iff_ne.mpr c18
            have c18b1 : (t123 != t125) = true := bne_iff_ne.mpr c18
            have H' := Aside0.mk H
            clear H
            go_wp2
            repeat (go_quiet (fail); try go_wp2)
            go_meet
            case rel => exact ⟨_, (true), (by first | rfl | (simp; done) | (simp [*]; done)), H', ⟨by first | omega | exact Nat.le_refl _⟩, ⟨by (with_reducible repeat (first | apply Kd.R_alloc | apply Kd.R_drewN | apply Kd.R_drew)); exact HO121.out⟩, ⟨by repeat (first | (with_reducible first | exact HB.out | apply below_alloc | apply pw_below_drewN | apply below_drew1) | exact HB.out)⟩⟩
        · rw [if_neg c17] at H
          have c17b0 : (t122.toList == t124.toList) = false := beq_eq_false_iff_ne.mpr c17
          have c17b1 : (t122.toList != t124.toList) = true := bne_iff_ne.mpr c17
          (first | rw [c17b0] | (simp only [i64_w, i32_w]; rw [c17b0]) | skip)
          have H' := Aside0.mk H
          clear H
          go_wp2
          repeat (go_quiet (fail); try go_wp2)
          go_meet
          case rel => exact ⟨_, (true), (by first | rfl | (simp; done) | (simp [*]; done)), H', ⟨by first | omega | exact Nat.le_refl _⟩, ⟨by (with_reducible repeat (first | apply Kd.R_alloc | apply Kd.R_drewN | apply Kd.R_drew)); exact HO121.out⟩, ⟨by repeat (first | (with_reducible first | exact HB.out | apply below_alloc | apply pw_below_drewN | apply below_drew1) | exact HB.out)⟩⟩
      case rest =>
        clear HC11
        try clear c1
        try clear p2
        try clear c3
        try clear c4
        try clear c6
        try clear c17
        try clear c17b0
        try clear c17b1
        try clear c18
        try clear c18b0
        try clear c18b1
        obtain ⟨kq, x44_10, rfl, HA, HJ10, HO_5, HB⟩ := hcut
        cases kq with
        | zero => exact absurd HA.out (by simp [parlancelaw07_TextApplies.j0])
        | succ kj10 =>
          have H := HA.out
          clear HA
          simp only [parlancelaw07_TextApplies.j0] at H
          by_cases c19 : x44_10 = true
          · subst c19
            have H1 : (some false) = some r := by rw [if_pos rfl] at H; exact H
            clear H
            have H := H1
            clear H1
            obtain rfl := Option.some.inj H
            go_wp2
            repeat (go_quiet (fail); try go_wp2)
            go_ret
            exact ⟨by first | rfl | (simp [errW_none, errW_some] <;> rfl) | (simp [*, errW_none, errW_some] <;> rfl), by repeat (first | (with_reducible first | exact HB.out | apply below_alloc | apply pw_below_drewN | apply below_drew1) | exact HB.out)⟩
          · replace c19 := Bool.eq_false_iff.mpr c19
            subst c19
            have H1 : (parlancelaw07_TextApplies.l0 kj10 l1 t119 0) = some r := by rw [if_neg (show ¬ (false = true) by decide)] at H; exact H
            clear H
            have H := H1
            clear H1
            have H' := Aside0.mk H
            clear H
            go_wp2
            repeat (go_quiet (fail); try go_wp2)
            go_loopg [10] kj10 (fun kq v10 w' => ∃ (x10_2 : Int), v10 = .int .i64 x10_2 ∧ Aside0 (parlancelaw07_TextApplies.l0 kq l1 t119 x10_2 = some r) ∧ Aside0 (kq ≤ kj10) ∧ Aside0 (Kd.R k31 31 w' w.heap.size (fun _ => True) (.slice Ao14 t119.length co14) t119) ∧ Aside0 (Below w.heap.size w w'))
            case atStart => exact ⟨(0), (by first | rfl | (simp; done) | (simp [*]; done)), H', ⟨Nat.le_refl _⟩, ⟨by (with_reducible repeat (first | apply Kd.R_alloc | apply Kd.R_drewN | apply Kd.R_drew)); exact HO_5.out⟩, ⟨by repeat (first | (with_reducible first | exact HB.out | apply below_alloc | apply pw_below_drewN | apply below_drew1) | exact HB.out)⟩⟩
            case round =>
              clear H'
              try clear c1
              try clear p2
              try clear c3
              try clear c4
              try clear c6
              try clear c17
              try clear c17b0
              try clear c17b1
              try clear c18
              try clear c18b0
              try clear c18b1
              try clear c19
              try clear p2
              obtain ⟨x10_2, rfl, HA, HK2, HO_5, HB⟩ := hrel
              cases gk with
              | zero => exact absurd HA.out (by simp [parlancelaw07_TextApplies.l0])
              | succ k2 =>
                have H := HA.out
                clear HA
                simp only [parlancelaw07_TextApplies.l0] at H
                by_cases c20 : x10_2 < (t119.length : Int)
                · rw [if_pos c20] at H
                  have c20b0 : decide (x10_2 < (t119.length : Int)) = true := decide_eq_true c20
                  clear c20
                  by_cases c21 : 0 ≤ x10_2
                  · rw [if_pos c21] at H
                    have c21b0 : decide (0 ≤ x10_2) = true := decide_eq_true c21
                    clear c21
                    by_cases c22 : x10_2 < (l1.length : Int)
                    · rw [if_pos c22] at H
                      have c22b0 : decide (x10_2 < (l1.length : Int)) = true := decide_eq_true c22
                      clear c22
                      by_cases c23 : (!(((rd_T31 t119 x10_2).f0) == ((rd_T31 l1 x10_2).f0)) || (!(((rd_T31 t119 x10_2).f1) == ((rd_T31 l1 x10_2).f1)) || (!(((rd_T31 t119 x10_2).f2) == ((rd_T31 l1 x10_2).f2)) || (!(((rd_T31 t119 x10_2).f3) == ((rd_T31 l1 x10_2).f3)) || (!((((rd_T31 t119 x10_2).f4).toList) == (((rd_T31 l1 x10_2).f4).toList))))))) = true
                      · rw [if_pos c23] at H
                        have c23b0 : (!(((rd_T31 t119 x10_2).f0) == ((rd_T31 l1 x10_2).f0)) || (!(((rd_T31 t119 x10_2).f1) == ((rd_T31 l1 x10_2).f1)) || (!(((rd_T31 t119 x10_2).f2) == ((rd_T31 l1 x10_2).f2)) || (!(((rd_T31 t119 x10_2).f3) == ((rd_T31 l1 x10_2).f3)) || (!((((rd_T31 t119 x10_2).f4).toList) == (((rd_T31 l1 x10_2).f4).toList))))))) = true := c23
                        clear c23
                        obtain rfl := Option.some.inj H
                        have p126 : 0 ≤ (x10_2 : Int) := of_decide_eq_true (by first | (with_reducible assumption) | assumption)
                        have q126 : x10_2 < (t119.length : Int) := of_decide_eq_true (by first | (with_reducible assumption) | assumption)
                        obtain ⟨ad126, e126, hx126_0, hx126_1, hx126_2, hx126_3, hx126_4⟩ := at_T31 (Kd.R_reads' HO_5.out).2.2 x10_2 p126 q126
                        cases e126
                        replace p126 := eq_true p126
                        replace q126 := eq_true q126
                        have p127 : 0 ≤ (x10_2 : Int) := of_decide_eq_true (by first | (with_reducible assumption) | assumption)
                        have q127 : x10_2 < (l1.length : Int) := of_decide_eq_true (by first | (with_reducible assumption) | assumption)
                        obtain ⟨ad127, e127, hx127_0, hx127_1, hx127_2, hx127_3, hx127_4⟩ := at_T31 HR1.out x10_2 p127 q127
                        cases e127
                        replace hx127_0 := (HB.out.cell (World.block_lt_of_cell? w _ hx127_0)).trans hx127_0
                        replace hx127_1 := (HB.out.cell (World.block_lt_of_cell? w _ hx127_1)).trans hx127_1
                        replace hx127_2 := (HB.out.cell (World.block_lt_of_cell? w _ hx127_2)).trans hx127_2
                        replace hx127_3 := (HB.out.cell (World.block_lt_of_cell? w _ hx127_3)).trans hx127_3
                        replace hx127_4 := (HB.out.cell (World.block_lt_of_cell? w _ hx127_4)).trans hx127_4
                        replace p127 := eq_true p127
                        replace q127 := eq_true q127
                        go_wp2
                        repeat (go_quiet (fail); try go_wp2)
                        go_ret
                        exact ⟨by first | rfl | (simp [errW_none, errW_some] <;> rfl) | (simp [*, errW_none, errW_some] <;> rfl), by repeat (first | (with_reducible first | exact HB.out | apply below_alloc | apply pw_below_drewN | apply below_drew1) | exact HB.out)⟩
                      · rw [if_neg c23] at H
                        have c23b0 : (!(((rd_T31 t119 x10_2).f0) == ((rd_T31 l1 x10_2).f0)) || (!(((rd_T31 t119 x10_2).f1) == ((rd_T31 l1 x10_2).f1)) || (!(((rd_T31 t119 x10_2).f2) == ((rd_T31 l1 x10_2).f2)) || (!(((rd_T31 t119 x10_2).f3) == ((rd_T31 l1 x10_2).f3)) || (!((((rd_T31 t119 x10_2).f4).toList) == (((rd_T31 l1 x10_2).f4).toList))))))) = false := by simpa using c23
                        clear c23
                        have H' := Aside0.mk H
                        clear H
                        have p126 : 0 ≤ (x10_2 : Int) := of_decide_eq_true (by first | (with_reducible assumption) | assumption)
                        have q126 : x10_2 < (t119.length : Int) := of_decide_eq_true (by first | (with_reducible assumption) | assumption)
                        obtain ⟨ad126, e126, hx126_0, hx126_1, hx126_2, hx126_3, hx126_4⟩ := at_T31 (Kd.R_reads' HO_5.out).2.2 x10_2 p126 q126
                        cases e126
                        replace p126 := eq_true p126
                        replace q126 := eq_true q126
                        have p127 : 0 ≤ (x10_2 : Int) := of_decide_eq_true (by first | (with_reducible assumption) | assumption)
                        have q127 : x10_2 < (l1.length : Int) := of_decide_eq_true (by first | (with_reducible assumption) | assumption)
                        obtain ⟨ad127, e127, hx127_0, hx127_1, hx127_2, hx127_3, hx127_4⟩ := at_T31 HR1.out x10_2 p127 q127
                        cases e127
                        replace hx127_0 := (HB.out.cell (World.block_lt_of_cell? w _ hx127_0)).trans hx127_0
                        replace hx127_1 := (HB.out.cell (World.block_lt_of_cell? w _ hx127_1)).trans hx127_1
                        replace hx127_2 := (HB.out.cell (World.block_lt_of_cell? w _ hx127_2)).trans hx127_2
                        replace hx127_3 := (HB.out.cell (World.block_lt_of_cell? w _ hx127_3)).trans hx127_3
                        replace hx127_4 := (HB.out.cell (World.block_lt_of_cell? w _ hx127_4)).trans hx127_4
                        replace p127 := eq_true p127
                        replace q127 := eq_true q127
                        go_wp2
                        repeat (go_quiet (fail); try go_wp2)
                        go_roundg k2
                        case measure => have := HJ10.out; have := HK2.out; omega
                        case rel => exact ⟨(wrap64 (x10_2 + 1)), (by first | rfl | (simp; done) | (simp [*]; done)), H', ⟨by have := HJ10.out; have := HK2.out; omega⟩, ⟨by (with_reducible repeat (first | apply Kd.R_alloc | apply Kd.R_drewN | apply Kd.R_drew)); exact HO_5.out⟩, ⟨by repeat (first | (with_reducible first | exact HB.out | apply below_alloc | apply pw_below_drewN | apply below_drew1) | exact HB.out)⟩⟩
                    · rw [if_neg c22] at H
                      exact absurd H (by simp)
                  · rw [if_neg c21] at H
                    exact absurd H (by simp)
                · rw [if_neg c20] at H
                  have c20b0 : decide (x10_2 < (t119.length : Int)) = false := decide_eq_false c20
                  clear c20
                  obtain rfl := Option.some.inj H
                  go_wp2
                  repeat (go_quiet (fail); try go_wp2)
                  go_ret
                  exact ⟨by first | rfl | (simp [errW_none, errW_some] <;> rfl) | (simp [*, errW_none, errW_some] <;> rfl), by repeat (first | (with_reducible first | exact HB.out | apply below_alloc | apply pw_below_drewN | apply below_drew1) | exact HB.out)⟩
  · replace c4 := Bool.eq_false_iff.mpr c4
    subst c4
    have H1 : (some false) = some r := by rw [if_neg (show ¬ (false = true) by decide)] at H; exact H
    clear H
    have H := H1
    clear H1
    obtain rfl := Option.some.inj H
    go_enter Tryd.func3, Tryd.ntmps3
    go_wp2_with (first | (go_at_call 11; (with_reducible refine (parlancelaw07_alive.calls k  false _ ?side1 A3.out).mono ?_); (case side1 => exact T8_below HT.out (by repeat (first | (with_reducible first | exact HB.out | apply below_alloc | apply pw_below_drewN | apply below_drew1) | exact HB.out))); rintro e w24 ⟨rfl, hb⟩; have n0_ := Aside0.mk (below_step (by repeat (first | (with_reducible first | exact HB.out | apply below_alloc | apply pw_below_drewN | apply below_drew1) | exact HB.out)) hb); clear HB; have HB := n0_; clear n0_; (try clear hb); (try clear hb2); (try clear hk); (try clear hi)))
    repeat (go_quiet (first | (go_at_call 11; (with_reducible refine (parlancelaw07_alive.calls k  false _ ?side1 A3.out).mono ?_); (case side1 => exact T8_below HT.out (by repeat (first | (with_reducible first | exact HB.out | apply below_alloc | apply pw_below_drewN | apply below_drew1) | exact HB.out))); rintro e w24 ⟨rfl, hb⟩; have n0_ := Aside0.mk (below_step (by repeat (first | (with_reducible first | exact HB.out | apply below_alloc | apply pw_below_drewN | apply below_drew1) | exact HB.out)) hb); clear HB; have HB := n0_; clear n0_; (try clear hb); (try clear hb2); (try clear hk); (try clear hi))); try go_wp2_with (first | (go_at_call 11; (with_reducible refine (parlancelaw07_alive.calls k  false _ ?side1 A3.out).mono ?_); (case side1 => exact T8_below HT.out (by repeat (first | (with_reducible first | exact HB.out | apply below_alloc | apply pw_below_drewN | apply below_drew1) | exact HB.out))); rintro e w24 ⟨rfl, hb⟩; have n0_ := Aside0.mk (below_step (by repeat (first | (with_reducible first | exact HB.out | apply below_alloc | apply pw_below_drewN | apply below_drew1) | exact HB.out)) hb); clear HB; have HB := n0_; clear n0_; (try clear hb); (try clear hb2); (try clear hk); (try clear hi))))
    go_ret
    exact ⟨by first | rfl | (simp [errW_none, errW_some] <;> rfl) | (simp [*, errW_none, errW_some] <;> rfl), by repeat (first | (with_reducible first | exact HB.out | apply below_alloc | apply pw_below_drewN | apply below_drew1) | exact HB.out)⟩

/-- THE ONE PURE STATEMENT of parlancelaw07_TextApplies: yours. -/
def parlancelaw07_TextApplies.Pure : Prop := ∀ (a0 : ByteArray) (l1 : List (S31)), a0.size ≤ 140737488351232 → (l1.length ≤ maxLen ∧ l1.length * 48 ≤ 140737488351232 ∧ ∀ y0_ ∈ l1, ((Lit.int .i64 y0_.f0).wf = true ∧ (Lit.int .i64 y0_.f1).wf = true ∧ (Lit.int .i64 y0_.f2).wf = true ∧ (Lit.int .i64 y0_.f3).wf = true ∧ y0_.f4.size ≤ 140737488351232)) → ∃ k, parlancelaw07_TextApplies.f k a0 l1 = some true
theorem parlancelaw07_TextApplies.walk (P : parlancelaw07_TextApplies.Pure) (a0 : ByteArray) (A1 : Option Addr) (c1 : Nat) (l1 : List (S31)) (w : World) (w0 : a0.size ≤ 140737488351232) (hr1 : Kd.C k31 w A1 l1.length l1) (hc1 : l1.length ≤ c1) (o1 : (l1.length ≤ maxLen ∧ l1.length * 48 ≤ 140737488351232 ∧ ∀ y0_ ∈ l1, ((Lit.int .i64 y0_.f0).wf = true ∧ (Lit.int .i64 y0_.f1).wf = true ∧ (Lit.int .i64 y0_.f2).wf = true ∧ (Lit.int .i64 y0_.f3).wf = true ∧ y0_.f4.size ≤ 140737488351232))) (hT : T8 w) :
    Calls Tryd.prog 3 #[.string a0, .slice A1 l1.length c1] w fun e w' => e = .returned (.bool true) ∧ Below w.heap.size w w' := by
  obtain ⟨k, h⟩ := P a0 l1 w0 o1
  refine (parlancelaw07_TextApplies.calls k a0 _ _ l1 true w hr1 hc1 hT h).mono ?_
  rintro e w' ⟨rfl, hd⟩
  exact ⟨rfl, hd⟩

end Go.Proofs.YtjffpcjbbehooaaDoor.PApp
