/-
  slices.Concat of two rows of bytes: its contract.
-/
import Derived.Test.YtomebmjjgkcjiaaGreatDoorWWords
import Derived.Test.YtomebmjjgkcjiaaGreatDoorWZeros
import Derived.Test.YtomebmjjgkcjiaaGreatDoorFrameNum
import Derived.WalkKit
import Derived.Deep.LoopGhost
import Derived.Lib.AppendZeros
set_option linter.unusedVariables false
namespace Go.Proofs.YtomebmjjgkcjiaaGreatDoor.G
open Go.RowKit Go.Proofs.YtomebmjjgkcjiaaGreatDoorW.PrintWords Go.Lib
theorem info8 : (Tryz.prog.info? 5).map (fun i => (i.zero, i.size, i.bytes)) = some (some (.int .u8 0), 1, 1) := by kernel_rfl
abbrev OwnB (w : World) (base : Nat) (v : Value) (l : List Int) : Prop := Kd.R (Kd.int .u8) 5 w base (fun _ => True) v l
set_option maxHeartbeats 2000000 in
set_option maxRecDepth 100000 in
theorem Grow_calls (n : Int) (w : World) (h0 : 0 ≤ n) (h1 : n ≤ 17592186044416) :
    Calls Tryz.prog 21 #[.slice none 0 0, .int .i64 n] w fun e w' => ∃ v, e = .returned v ∧ OwnB w' w.heap.size v [] ∧ Below w.heap.size w w' := by
  have hw : wrap64 n = n := by unfold wrap64; omega
  have hlt : ¬ n < 0 := by omega
  have H01 := Aside0.mk (And.intro h0 h1)
  clear h0 h1
  by_cases hp : 0 < n
  · obtain ⟨v1, w1, hrun, hr, hg, hat⟩ := Kd.R_zeros_run (P := Tryz.prog) (Kd.int .u8) (W := w) w.heap.size 27 3 27 5 (.int .u8 0) 1 Tryz.underlying27 Tryz.underlying3 info8 rfl (by decide) (by decide) (.slice none 0 0) [] (0 : Int) (ok := fun _ => True) rfl (fun _ _ => trivial) (Kd.R_nil _ _ _ _ _) .i64 n H01.out.1 (by have := H01.out; simp; omega) (Nat.le_refl _)
    obtain ⟨A, c, rfl, hlc, hC⟩ := Kd.R_reads hr
    have HR := Aside0.mk (Kd.R_take hr (Nat.zero_le _))
    have HB := Aside0.mk (show Below w.heap.size w w1 from (Below.refl _ w).grown hg (Nat.le_refl _) (fun j e => by simp [Value.ownBlock] at e))
    have hc0 : (0 : Int) ≤ (c : Int) := by omega
    have hl : (([] : List Int) ++ List.replicate n.toNat (0 : Int)).length = n.toNat := by simp
    rw [hl] at hrun
    clear hl
    have hn0 : (0 : Int) ≤ ((n.toNat : Nat) : Int) := by omega
    have HRUN := Aside0.mk (show (Builtin.append_ #[27, 3] 27 #[.slice none 0 0, .int .i64 (wrap64 n)]).run Tryz.prog w = .ok (.slice A n.toNat c) w1 by rw [hw]; exact hrun)
    clear hrun
    clear hr hg hat hC hlc
    go_enter Tryz.func21, Tryz.ntmps21
    go_wp2_with (at_builtin; refine Lib.wpList_append_run _ rfl _ _ _ _ rfl _ _ rfl rfl _ _ HRUN.out ?_)
    go_ret
    exact ⟨_, rfl, HR.out, HB.out⟩
  · go_enter Tryz.func21, Tryz.ntmps21
    go_wp2_with (fail)
    go_ret
    exact ⟨_, rfl, Kd.R_nil _ _ _ _ _, Below.refl _ _⟩
set_option maxHeartbeats 4000000 in
set_option maxRecDepth 100000 in
theorem Concat_calls (g : Nat) (A0 A1 : Option Addr) (c0 c1 : Nat) (l0 l1 : List Int) (w : World) (h0 : w.cell? ⟨g, 0, none⟩ = some (.slice A0 l0.length c0)) (h1 : w.cell? ⟨g, 1, none⟩ = some (.slice A1 l1.length c1))
    (hC0 : Kd.C (Kd.int .u8) w A0 l0.length l0) (hC1 : Kd.C (Kd.int .u8) w A1 l1.length l1) (hl : l0.length + l1.length ≤ 17592186044416) :
    Calls Tryz.prog 16 #[.slice (some ⟨g, 0, none⟩) 2 2] w fun e w' => ∃ v, e = .returned v ∧ OwnB w' w.heap.size v (l0 ++ l1) ∧ Below w.heap.size w w' := by
  have hw0 : wrap64 (l0.length : Int) = (l0.length : Int) := by unfold wrap64; omega
  have hw1 : wrap64 ((l0.length : Int) + (l1.length : Int)) = (l0.length : Int) + (l1.length : Int) := by unfold wrap64; omega
  have HC := Aside0.mk (And.intro hC0 hC1)
  have HG := Aside0.mk (Grow_calls ((l0.length : Int) + (l1.length : Int)) w (by omega) (by omega))
  have HL := Aside0.mk hl
  have H0 := Aside0.mk (And.intro h0 h1)
  clear hC0 hC1 hl
  go_enter Tryz.func16, Tryz.ntmps16
  go_wp2_with (fail)
  go_loopg [3, 5, 11] 3 (fun k v3 _ v11 wx => wx = w ∧ ∃ i : Nat, i + k = 3 ∧ v11 = .int .i64 i ∧ ((i = 0 ∧ v3 = .int .i64 0) ∨ (i = 1 ∧ v3 = .int .i64 l0.length) ∨ (i = 2 ∧ v3 = .int .i64 ((l0.length : Int) + (l1.length : Int)))))
  case atStart => exact ⟨rfl, 0, rfl, rfl, .inl ⟨rfl, rfl⟩⟩
  case round =>
    obtain ⟨rfl, i, hig, rfl, (⟨rfl, rfl⟩ | ⟨rfl, rfl⟩ | ⟨rfl, rfl⟩)⟩ := hrel
    · go_wp2_with (fail)
      go_roundg 2
      case measure => omega
      case rel => exact ⟨rfl, 1, rfl, rfl, .inr (.inl ⟨rfl, by simp [hw0]⟩)⟩
    · go_wp2_with (fail)
      go_roundg 1
      case measure => omega
      case rel => exact ⟨rfl, 2, rfl, rfl, .inr (.inr ⟨rfl, by rw [hw1]⟩)⟩
    · go_wp2_with (go_at_call 21; refine HG.out.mono ?_; rintro e w1 ⟨v6, rfl, hr, hb⟩; have HR := Aside0.mk hr; have HB := Aside0.mk hb; clear hr hb)
      have HX0 := Aside0.mk (And.intro HR.out HB.out)
      clear HR HG hw0 hw1 h0 h1 HB
      obtain ⟨wz, hz⟩ : ∃ z, z = wr := ⟨_, rfl⟩
      subst hz
      go_loopg [6, 8, 27] 3 (fun k v6 _ v27 wx => ∃ i : Nat, i + k = 3 ∧ v27 = .int .i64 i ∧ ((i = 0 ∧ Aside0 (OwnB wx wz.heap.size v6 [] ∧ Below wz.heap.size wz wx)) ∨ (i = 1 ∧ Aside0 (OwnB wx wz.heap.size v6 l0 ∧ Below wz.heap.size wz wx)) ∨ (i = 2 ∧ Aside0 (OwnB wx wz.heap.size v6 (l0 ++ l1) ∧ Below wz.heap.size wz wx))))
      case atStart => exact ⟨0, rfl, rfl, .inl ⟨rfl, HX0⟩⟩
      case round =>
        obtain ⟨i, hig2, rfl, (⟨rfl, HX⟩ | ⟨rfl, HX⟩ | ⟨rfl, HX⟩)⟩ := hrel
        · have e0 := (HX.out.2.cell (World.block_lt_of_cell? wz _ H0.out.1)).trans H0.out.1
          have CY := Aside0.mk (Kd.C_below HC.out.1 HX.out.2)
          go_wp2_with (at_builtin; refine Kd.R_append_rows (Kd.int .u8) (w0 := wz) wz.heap.size rfl (.tmp 31) (.tmp 32) 27 5 (.int .u8 0) 1 rfl Tryz.underlying27 info8 rfl (by decide) (by omega) u6 [] l0 A0 _ _ (fun _ => True) (fun _ => False) rfl rfl ?aO ?aR (fun _ _ h => h) (fun _ h => h.elim) ?aF ?aB ?aS ?aL ?_; (case aO => exact HX.out.1); (case aR => exact CY.out); (case aF => exact fun _ _ => trivial); (case aB => exact HX.out.2); (case aS => exact HX.out.2.size); (case aL => have := HL.out; simp; omega); intro v3 w3 hr3 hb3 _ _; have HX3 := Aside0.mk (And.intro hr3 hb3); clear hr3 hb3)
          go_roundg 2
          case measure => omega
          case rel => exact ⟨1, rfl, rfl, .inr (.inl ⟨rfl, HX3⟩)⟩
        · have e1 := (HX.out.2.cell (World.block_lt_of_cell? wz _ H0.out.2)).trans H0.out.2
          have CY := Aside0.mk (Kd.C_below HC.out.2 HX.out.2)
          go_wp2_with (at_builtin; refine Kd.R_append_rows (Kd.int .u8) (w0 := wz) wz.heap.size rfl (.tmp 31) (.tmp 32) 27 5 (.int .u8 0) 1 rfl Tryz.underlying27 info8 rfl (by decide) (by omega) u6 l0 l1 A1 _ _ (fun _ => True) (fun _ => False) rfl rfl ?aO ?aR (fun _ _ h => h) (fun _ h => h.elim) ?aF ?aB ?aS ?aL ?_; (case aO => exact HX.out.1); (case aR => exact CY.out); (case aF => exact fun _ _ => trivial); (case aB => exact HX.out.2); (case aS => exact HX.out.2.size); (case aL => have := HL.out; simp; omega); intro v3 w3 hr3 hb3 _ _; have HX3 := Aside0.mk (And.intro hr3 hb3); clear hr3 hb3)
          go_roundg 1
          case measure => omega
          case rel => exact ⟨2, rfl, rfl, .inr (.inr ⟨rfl, HX3⟩)⟩
        · go_wp2_with (fail)
          go_ret
          exact ⟨_, rfl, HX.out.1, HX.out.2⟩
end Go.Proofs.YtomebmjjgkcjiaaGreatDoor.G
