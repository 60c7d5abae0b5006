/-
  The law parlance/parlancelaw03.FrameFeeds answers true at every input and leaves its arguments as they were.
  Conditions: the package-level variables that its row lists read as the program's text lays them (the card ties them to it); the row's own bounds on what a machine can hold.
-/
-- Printed by a program of this session (wip/printx.py) out of the translation. Not trusted: Lean checks it.
import Derived.Test.YtomebmjjgkcjiaaGreatDoorCards
import Derived.Test.YtomebmjjgkcjiaaGreatDoorTie
import Derived.Test.YtomebmjjgkcjiaaGreatDoorFrameLaid
import Derived.Test.YtomebmjjgkcjiaaGreatDoorOpens
import Derived.Test.YtomebmjjgkcjiaaGreatDoorFrameRowsZ
import Derived.WalkKit
import Derived.ProofKit
import Derived.OpenShut
import Derived.ShutString
import Derived.ChangeOld
import Derived.Below
import Derived.SizedLaws
import Derived.Deep.DeepHandedRow
import Derived.Test.YtomebmjjgkcjiaaGreatDoorWSized
namespace Go.Proofs.YtomebmjjgkcjiaaGreatDoor.frameFeeds
open Go.ChangeShapes Go.WideShapes Go.ChangeAt Go.RowKit Go.Proofs.YtomebmjjgkcjiaaGreatDoor.G Go.Proofs.YtomebmjjgkcjiaaGreatDoorW.PrintWords 
open Go.ChangeMaps (open_string shut_string)
theorem own : ownKnob Tryz.prog.godebug = none := by kernel_rfl
theorem laidOut : laidOutB Tryz.prog = true := by kernel_rfl
def IsRow (k : IntKind) (w : World) (a : Option Addr) (len cap : Nat) (zs : List Int) : Prop :=
  (a = none ∧ len = 0 ∧ cap = 0 ∧ zs = []) ∨
  ∃ x, a = some x ∧ len ≤ cap ∧ cap ≤ maxLen ∧ zs.length = cap ∧ (∀ i, i < zs.length → w.cell? (x.add i) = some (.int k (zs.getD i 0))) ∧ ∀ n ∈ zs, (Lit.int k n).wf = true
set_option maxRecDepth 100000 in
theorem laid_met (os : Os) : laidMet Tryz.prog Rows.frameFeedsRow.laid ((laidWorld os).forCall (fun _ _ => 0) ⟨#[], #[.slice none 0 0], []⟩).memory :=
  laidMet_of_run' 8 (by kernel_rfl) (by kernel_rfl)
theorem reads (os : Os) {H : Type} (enc : TypeId × Value → H) : ∃ places, DataW.whole enc Tryz.prog ((laidWorld os).forCall (fun _ _ => 0) ⟨#[], #[.slice none 0 0], []⟩).memory Tryz.f3.params.toList Rows.frameFeedsSpec.vars false (#[.slice none 0 0] : Array Value).toList 8 = some ([.nil], [], places) :=
  ⟨[], by kernel_rfl⟩
theorem opens_sl27 (n : Nat) : OpensAt Tryz.prog n 27 (Kd.slice 5 (Kd.int .u8)) (fun x_ => (x_.length ≤ maxLen ∧ x_.length * 1 ≤ 140737488351232 ∧ ∀ y0_ ∈ x_, (Lit.int .u8 y0_).wf = true)) := OpensAt.imp (opens_slice (B := 1) 5 Tryz.underlying27 (by kernel_rfl) (by kernel_rfl) (fun _ _ => (opens_int Tryz.underlying5))) (fun _ h_ => h_)
theorem opens_sl22 (n : Nat) : OpensAt Tryz.prog n 22 (Kd.slice 27 (Kd.slice 5 (Kd.int .u8))) (fun x_ => (x_.length ≤ maxLen ∧ x_.length * 24 ≤ 140737488351232 ∧ ∀ y0_ ∈ x_, (y0_.length ≤ maxLen ∧ y0_.length * 1 ≤ 140737488351232 ∧ ∀ y1_ ∈ y0_, (Lit.int .u8 y1_).wf = true))) := OpensAt.imp (opens_slice (B := 24) 27 Tryz.underlying22 (by kernel_rfl) (by kernel_rfl) (fun _ _ => (opens_sl27 _))) (fun _ h_ => h_)
set_option maxRecDepth 100000 in
theorem lifted (os : Os) (started : os.Started) (H : Type) (enc : TypeId × Value → H) (F : Stop.Interp) :
    ReturnsInHanded {} Tryz.checked os 3 .any ((OpenSpec.ofChange Rows.frameFeedsSpec).preRow enc Tryz.prog Tryz.f3 Rows.frameFeedsRow.domain false Rows.frameFeedsRow.laid) (((OpenSpec.ofChange Rows.frameFeedsSpec).at F).post enc Tryz.prog Tryz.f3 false true false false) := by
  obtain ⟨places, hx⟩ := reads os enc
  refine returnsInHanded_of_row (C := Tryz.checked) (s := OpenSpec.ofChange Rows.frameFeedsSpec) own started (by kernel_rfl) Tryz.func3
    (witness_row_at (enc := enc) (C := Tryz.checked) false (laidWorld os) #[.slice none 0 0] rfl (by kernel_rfl) (by kernel_rfl) (by kernel_rfl)
      (OpenSpec.preRow_of_cond 8 hx (by kernel_rfl) (fun k hk => by cases hk) (by kernel_rfl) (laid_met os))) ?_
  intro W base args ds gs before hval0 hW hcnd _ hsz0 hL hSh _
  have hT : TF W := tf_of_row hSh hL
  have hsz : (DataW.weightsEach Tryz.prog (Tryz.f3.params.toList ++ Rows.frameFeedsSpec.plain.varTypes Tryz.prog) (ds ++ gs)).all (· ≤ reachBytes) = true := hsz0
  have hval : ∀ (j : Nat) t v, Tryz.f3.params[j]? = some t → args[j]? = some v → Value.okWide Tryz.prog W .any base t v := hval0
  have hW' : DataW.Whole enc Tryz.prog Tryz.f3.params.toList Rows.frameFeedsSpec.vars false W args.toList ds gs before := hW
  obtain ⟨p, q, hA0, hV, rfl, hfz, hnd⟩ := hW
  have hA : DataW.TrodAll enc Tryz.prog W 0 (fun _ => true) true Tryz.f3.params.toList args.toList ds p := hA0
  rw [Tryz.params3] at hA hval hsz
  obtain ⟨v0, vs0, d0, ds0, p0, q0, hargs, rfl, rfl, h0, r0⟩ := trodAll_cons hA
  obtain ⟨rfl, rfl, rfl⟩ := trodAll_nil r0
  obtain rfl : args = #[v0] := by cases args; simp_all
  obtain ⟨rfl, rfl⟩ := trodVars_none hV
  obtain ⟨a0, len0, cap0, rfl⟩ := okWide_slice Tryz.underlying22 (hval 0 22 v0 rfl rfl)
  have k0 := h0
  have lt0 : ∀ x ∈ p0, x.block < W.heap.size := by obtain ⟨m, hm⟩ := k0; exact DataW.trod_lt m _ _ _ hm
  obtain ⟨l0, ⟨A0, c0, he0, hl0, hr0⟩, o0⟩ := OpensAt.arg (fun _ => (opens_sl22 _)) k0 hsz (j := 0) rfl rfl
  simp only [Value.cells, List.cons.injEq, Value.slice.injEq, and_true] at he0
  obtain ⟨rfl, rfl, rfl⟩ := he0
  clear hA0 hval0 hsz0 hsz hcnd
  refine (G.feeds_row _ _ l0 W hr0 hl0 o0 hT).mono fun e W' ⟨he, bel⟩ => ?_
  subst he
  exact ⟨_, rfl, (⟨_, _, _, [], _, [], hW', trodAll_mk1 (shut_bool Tryz.underlying4 _), (trodAll_cons_mk (Below.trod laidOut (by kernel_rfl) (of_decide_eq_true (by kernel_rfl)) k0 bel lt0) trodAll_mk0), rfl, bel.frame _, fun h => by cases h⟩ : Rows.frameFeedsSpec.post enc Tryz.prog Tryz.f3 false true false false W _ _ W')⟩
theorem said : Rows.FrameFeedsSaid :=
  OpenClaim.holds_of_cond 3 Tryz.f3 rfl rfl rfl rfl rfl rfl rfl ⟨rfl, rfl, rfl, rfl, rfl⟩ rfl rfl rfl rfl rfl (by kernel_rfl) Tryz.func3 (by kernel_rfl)
    (of_decide_eq_true (by kernel_rfl)) (by unfold Func.isWrapper; first | (rw [if_pos (by decide +kernel)]; kernel_rfl) | (rw [if_neg (by decide +kernel)]; exact ⟨rfl, rfl⟩))
    (fun os started H enc _ F => by rw [OpenClaim.pre_eq_preRow]; exact lifted os started H enc F)
theorem plain (f : FuncId) (fn : Func) (hf : Tryz.pinned.checked.prog.funcNamed "parlance/parlancelaw03.FrameFeeds" = some f) (hfn : Tryz.pinned.checked.prog.funcs[f]? = some fn) :
    true = Tryz.pinned.checked.prog.looks [] ∧ ∀ (j : Nat) t, fn.params[j]? = some t → Tryz.pinned.checked.prog.wantsStandIn t = false := by
  obtain rfl : f = 3 := Option.some.inj ((show Tryz.prog.funcNamed "parlance/parlancelaw03.FrameFeeds" = some 3 by kernel_rfl).symm.trans hf) |>.symm
  obtain rfl : fn = Tryz.f3 := (Option.some.inj (Tryz.func3.symm.trans hfn)).symm
  refine ⟨by kernel_rfl, fun j t ht => ?_⟩
  rw [Tryz.params3] at ht
  have hall : ∀ t ∈ (#[22] : Array TypeId), Tryz.prog.wantsStandIn t = false := by
    intro t ht
    simp only [List.mem_toArray, List.mem_cons, List.not_mem_nil, or_false] at ht
    rcases ht with rfl
    all_goals kernel_rfl
  exact hall t (Array.mem_of_getElem? ht)
theorem card : Rows.FrameFeedsCardSaid :=
  Claim7.holds_tied_plain_at .later [] _ _ _ _ said (fun _ h => by cases h) (by kernel_rfl) (fun _ h => by cases h) frameFeeds_row_tie rfl ⟨rfl, rfl⟩ (by kernel_rfl) rfl plain (by kernel_rfl)
end Go.Proofs.YtomebmjjgkcjiaaGreatDoor.frameFeeds
namespace Go.Proofs.YtomebmjjgkcjiaaGreatDoor
/-- The tied card, under a short name, for the claim. -/
theorem frameFeeds_card : Rows.FrameFeedsCardSaid := frameFeeds.card
end Go.Proofs.YtomebmjjgkcjiaaGreatDoor
