/-
  The law parlance/parlancelaw03.FrameRound answers true at every input and leaves its arguments as they were.
  Conditions: the package-level variables that its row lists read as the program's text lays them (the card ties them to it); the row's own bounds on what a machine can hold.
-/
-- Printed by a program of this session (wip/printx.py) out of the translation. Not trusted: Lean checks it.
import Derived.Test.YtomebmjjgkcjiaaDoorCards
import Derived.Test.YtomebmjjgkcjiaaDoorTie
import Derived.Test.YtomebmjjgkcjiaaDoorFrameLaid
import Derived.Test.YtomebmjjgkcjiaaDoorOpens
import Derived.Test.YtomebmjjgkcjiaaDoorFrameRowsB
import Derived.WalkKit
import Derived.ProofKit
import Derived.OpenShut
import Derived.ShutString
import Derived.ChangeOld
import Derived.Below
import Derived.SizedLaws
import Derived.Deep.DeepHandedRow
import Derived.Test.YtomebmjjgkcjiaaDoorWSized
namespace Go.Proofs.YtomebmjjgkcjiaaDoor.frameRound
open Go.ChangeShapes Go.WideShapes Go.ChangeAt Go.RowKit Go.Proofs.YtomebmjjgkcjiaaDoor.G Go.Proofs.YtomebmjjgkcjiaaDoorW.PrintWords 
open Go.ChangeMaps (open_string shut_string)
theorem own : ownKnob Tryd.prog.godebug = none := by kernel_rfl
theorem laidOut : laidOutB Tryd.prog = true := by kernel_rfl
def IsRow (k : IntKind) (w : World) (a : Option Addr) (len cap : Nat) (zs : List Int) : Prop :=
  (a = none ∧ len = 0 ∧ cap = 0 ∧ zs = []) ∨
  ∃ x, a = some x ∧ len ≤ cap ∧ cap ≤ maxLen ∧ zs.length = cap ∧ (∀ i, i < zs.length → w.cell? (x.add i) = some (.int k (zs.getD i 0))) ∧ ∀ n ∈ zs, (Lit.int k n).wf = true
set_option maxRecDepth 100000 in
theorem laid_met (os : Os) : laidMet Tryd.prog Rows.frameRoundRow.laid ((laidWorld os).forCall (fun _ _ => 0) ⟨#[], #[.slice none 0 0, .int .i64 0], []⟩).memory :=
  laidMet_of_run' 8 (by kernel_rfl) (by kernel_rfl)
theorem reads (os : Os) {H : Type} (enc : TypeId × Value → H) : ∃ places, DataW.whole enc Tryd.prog ((laidWorld os).forCall (fun _ _ => 0) ⟨#[], #[.slice none 0 0, .int .i64 0], []⟩).memory Tryd.f6.params.toList Rows.frameRoundSpec.vars false (#[.slice none 0 0, .int .i64 0] : Array Value).toList 8 = some ([.nil, .lit (.int .i64 0)], [], places) :=
  ⟨[], by kernel_rfl⟩
theorem opens_sl22 (n : Nat) : OpensAt Tryd.prog n 22 (Kd.slice 5 (Kd.int .u8)) (fun x_ => (x_.length ≤ maxLen ∧ x_.length * 1 ≤ 140737488351232 ∧ ∀ y0_ ∈ x_, (Lit.int .u8 y0_).wf = true)) := OpensAt.imp (opens_slice (B := 1) 5 Tryd.underlying22 (by kernel_rfl) (by kernel_rfl) (fun _ _ => (opens_int Tryd.underlying5))) (fun _ h_ => h_)
theorem opens_sl32 (n : Nat) : OpensAt Tryd.prog n 32 (Kd.slice 22 (Kd.slice 5 (Kd.int .u8))) (fun x_ => (x_.length ≤ maxLen ∧ x_.length * 24 ≤ 140737488351232 ∧ ∀ y0_ ∈ x_, (y0_.length ≤ maxLen ∧ y0_.length * 1 ≤ 140737488351232 ∧ ∀ y1_ ∈ y0_, (Lit.int .u8 y1_).wf = true))) := OpensAt.imp (opens_slice (B := 24) 22 Tryd.underlying32 (by kernel_rfl) (by kernel_rfl) (fun _ _ => (opens_sl22 _))) (fun _ h_ => h_)
set_option maxRecDepth 100000 in
theorem lifted (os : Os) (started : os.Started) (H : Type) (enc : TypeId × Value → H) (F : Stop.Interp) :
    ReturnsInHanded {} Tryd.checked os 6 .any ((OpenSpec.ofChange Rows.frameRoundSpec).preRow enc Tryd.prog Tryd.f6 Rows.frameRoundRow.domain false Rows.frameRoundRow.laid) (((OpenSpec.ofChange Rows.frameRoundSpec).at F).post enc Tryd.prog Tryd.f6 false true false false) := by
  obtain ⟨places, hx⟩ := reads os enc
  refine returnsInHanded_of_row (C := Tryd.checked) (s := OpenSpec.ofChange Rows.frameRoundSpec) own started (by kernel_rfl) Tryd.func6
    (witness_row_at (enc := enc) (C := Tryd.checked) false (laidWorld os) #[.slice none 0 0, .int .i64 0] rfl (by kernel_rfl) (by kernel_rfl) (by kernel_rfl)
      (OpenSpec.preRow_of_cond 8 hx (by kernel_rfl) (fun k hk => by cases hk) (by kernel_rfl) (laid_met os))) ?_
  intro W base args ds gs before hval0 hW hcnd _ hsz0 hL hSh _
  have hT : TF W := tf_of_row hSh hL
  have hsz : (DataW.weightsEach Tryd.prog (Tryd.f6.params.toList ++ Rows.frameRoundSpec.plain.varTypes Tryd.prog) (ds ++ gs)).all (· ≤ reachBytes) = true := hsz0
  have hval : ∀ (j : Nat) t v, Tryd.f6.params[j]? = some t → args[j]? = some v → Value.okWide Tryd.prog W .any base t v := hval0
  have hW' : DataW.Whole enc Tryd.prog Tryd.f6.params.toList Rows.frameRoundSpec.vars false W args.toList ds gs before := hW
  obtain ⟨p, q, hA0, hV, rfl, hfz, hnd⟩ := hW
  have hA : DataW.TrodAll enc Tryd.prog W 0 (fun _ => true) true Tryd.f6.params.toList args.toList ds p := hA0
  rw [Tryd.params6] at hA hval hsz
  obtain ⟨v0, vs0, d0, ds0, p0, q0, hargs, rfl, rfl, h0, r0⟩ := trodAll_cons hA
  obtain ⟨v1, vs1, d1, ds1, p1, q1, rfl, rfl, rfl, h1, r1⟩ := trodAll_cons r0
  obtain ⟨rfl, rfl, rfl⟩ := trodAll_nil r1
  obtain rfl : args = #[v0, v1] := by cases args; simp_all
  obtain ⟨rfl, rfl⟩ := trodVars_none hV
  obtain ⟨a0, len0, cap0, rfl⟩ := okWide_slice Tryd.underlying32 (hval 0 32 v0 rfl rfl)
  have k0 := h0
  have lt0 : ∀ x ∈ p0, x.block < W.heap.size := by obtain ⟨m, hm⟩ := k0; exact DataW.trod_lt m _ _ _ hm
  obtain ⟨l0, ⟨A0, c0, he0, hl0, hr0⟩, o0⟩ := OpensAt.arg (fun _ => (opens_sl32 _)) k0 hsz (j := 0) rfl rfl
  simp only [Value.cells, List.cons.injEq, Value.slice.injEq, and_true] at he0
  obtain ⟨rfl, rfl, rfl⟩ := he0
  obtain ⟨a1, rfl, rfl, rfl, w1⟩ := open_int Tryd.underlying3 (hval 1 3 v1 rfl rfl) h1
  clear hA0 hval0 hsz0 hsz hcnd
  refine (G.round_row _ _ l0 a1 W hr0 hl0 o0 w1 hT).mono fun e W' ⟨he, bel⟩ => ?_
  subst he
  exact ⟨_, rfl, (⟨_, _, _, [], _, [], hW', trodAll_mk1 (shut_bool Tryd.underlying4 _), (trodAll_cons_mk (Below.trod laidOut (by kernel_rfl) (of_decide_eq_true (by kernel_rfl)) k0 bel lt0) (trodAll_cons_mk (shut_int Tryd.underlying3 w1) trodAll_mk0)), rfl, bel.frame _, fun h => by cases h⟩ : Rows.frameRoundSpec.post enc Tryd.prog Tryd.f6 false true false false W _ _ W')⟩
theorem said : Rows.FrameRoundSaid :=
  OpenClaim.holds_of_cond 6 Tryd.f6 rfl rfl rfl rfl rfl rfl rfl ⟨rfl, rfl, rfl, rfl, rfl⟩ rfl rfl rfl rfl rfl (by kernel_rfl) Tryd.func6 (by kernel_rfl)
    (of_decide_eq_true (by kernel_rfl)) (by unfold Func.isWrapper; first | (rw [if_pos (by decide +kernel)]; kernel_rfl) | (rw [if_neg (by decide +kernel)]; exact ⟨rfl, rfl⟩))
    (fun os started H enc _ F => by rw [OpenClaim.pre_eq_preRow]; exact lifted os started H enc F)
theorem plain (f : FuncId) (fn : Func) (hf : Tryd.pinned.checked.prog.funcNamed "parlance/parlancelaw03.FrameRound" = some f) (hfn : Tryd.pinned.checked.prog.funcs[f]? = some fn) :
    true = Tryd.pinned.checked.prog.looks [] ∧ ∀ (j : Nat) t, fn.params[j]? = some t → Tryd.pinned.checked.prog.wantsStandIn t = false := by
  obtain rfl : f = 6 := Option.some.inj ((show Tryd.prog.funcNamed "parlance/parlancelaw03.FrameRound" = some 6 by kernel_rfl).symm.trans hf) |>.symm
  obtain rfl : fn = Tryd.f6 := (Option.some.inj (Tryd.func6.symm.trans hfn)).symm
  refine ⟨by kernel_rfl, fun j t ht => ?_⟩
  rw [Tryd.params6] at ht
  have hall : ∀ t ∈ (#[32, 3] : Array TypeId), Tryd.prog.wantsStandIn t = false := by
    intro t ht
    simp only [List.mem_toArray, List.mem_cons, List.not_mem_nil, or_false] at ht
    rcases ht with rfl | rfl
    all_goals kernel_rfl
  exact hall t (Array.mem_of_getElem? ht)
theorem card : Rows.FrameRoundCardSaid :=
  Claim7.holds_tied_plain_at .later [] _ _ _ _ said (fun _ h => by cases h) (by kernel_rfl) (fun _ h => by cases h) frameRound_row_tie rfl ⟨rfl, rfl⟩ (by kernel_rfl) rfl plain (by kernel_rfl)
end Go.Proofs.YtomebmjjgkcjiaaDoor.frameRound
namespace Go.Proofs.YtomebmjjgkcjiaaDoor
/-- The tied card, under a short name, for the claim. -/
theorem frameRound_card : Rows.FrameRoundCardSaid := frameRound.card
end Go.Proofs.YtomebmjjgkcjiaaDoor
