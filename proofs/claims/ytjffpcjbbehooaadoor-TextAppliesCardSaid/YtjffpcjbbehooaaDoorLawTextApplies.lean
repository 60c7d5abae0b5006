/-
  The law parlance/parlancelaw07.TextApplies answers true at every input and leaves its arguments as they were.
  Conditions: the package-level variables that its row lists read as the program's text lays them (the card ties them to it); the row's own bounds on what a machine can hold.
-/
-- Printed by a program of this session (wip/printx.py) out of the translation. Not trusted: Lean checks it.
import Derived.Test.YtjffpcjbbehooaaDoorCards
import Derived.Test.YtjffpcjbbehooaaDoorTie
import Derived.Test.YtjffpcjbbehooaaDoorLaid
import Derived.Test.YtjffpcjbbehooaaDoorOpens
import Derived.Test.YtjffpcjbbehooaaDoorPAppx2
import Derived.Test.YtjffpcjbbehooaaDoorPureTextApplies
import Derived.WalkKit
import Derived.ProofKit
import Derived.OpenShut
import Derived.ShutString
import Derived.ChangeOld
import Derived.Below
import Derived.SizedLaws
import Derived.Deep.DeepHandedRow
import Derived.Test.YtjffpcjbbehooaaDoorWSized
namespace Go.Proofs.YtjffpcjbbehooaaDoor.textApplies
open Go.ChangeShapes Go.WideShapes Go.ChangeAt Go.RowKit Go.Proofs.YtjffpcjbbehooaaDoor.G Go.Proofs.YtjffpcjbbehooaaDoorW.PrintWords Go.Proofs.YtjffpcjbbehooaaDoor.PUA Go.Proofs.YtjffpcjbbehooaaDoor.PFn Go.Proofs.YtjffpcjbbehooaaDoor.PRef Go.Proofs.YtjffpcjbbehooaaDoor.PEd Go.Proofs.YtjffpcjbbehooaaDoor.PApp
open Go.ChangeMaps (open_string shut_string)
theorem own : ownKnob Tryd.prog.godebug = none := by kernel_rfl
theorem laidOut : laidOutB Tryd.prog = true := by kernel_rfl
def IsRow (k : IntKind) (w : World) (a : Option Addr) (len cap : Nat) (zs : List Int) : Prop :=
  (a = none ∧ len = 0 ∧ cap = 0 ∧ zs = []) ∨
  ∃ x, a = some x ∧ len ≤ cap ∧ cap ≤ maxLen ∧ zs.length = cap ∧ (∀ i, i < zs.length → w.cell? (x.add i) = some (.int k (zs.getD i 0))) ∧ ∀ n ∈ zs, (Lit.int k n).wf = true
set_option maxRecDepth 100000 in
theorem laid_met (os : Os) : laidMet Tryd.prog Rows.textAppliesRow.laid ((laidWorld os).forCall (fun _ _ => 0) ⟨#[], #[.string ByteArray.empty, .slice none 0 0], []⟩).memory :=
  laidMet_of_run' 8 (by kernel_rfl) (by kernel_rfl)
theorem reads (os : Os) {H : Type} (enc : TypeId × Value → H) : ∃ places, DataW.whole enc Tryd.prog ((laidWorld os).forCall (fun _ _ => 0) ⟨#[], #[.string ByteArray.empty, .slice none 0 0], []⟩).memory Tryd.f3.params.toList Rows.textAppliesSpec.vars false (#[.string ByteArray.empty, .slice none 0 0] : Array Value).toList 8 = some ([.lit (.string []), .nil], [], places) :=
  ⟨[], by kernel_rfl⟩
theorem opens_k31 (n : Nat) : OpensAt Tryd.prog n 31 k31 (fun x_ => ((Lit.int .i64 x_.f0).wf = true ∧ (Lit.int .i64 x_.f1).wf = true ∧ (Lit.int .i64 x_.f2).wf = true ∧ (Lit.int .i64 x_.f3).wf = true ∧ x_.f4.size ≤ 140737488351232)) := OpensAt.imp (opens_struct (proj := (fun x_ : S31 => (x_.f0, x_.f1, x_.f2, x_.f3, x_.f4))) Tryd.underlying31 (by kernel_rfl) (fun _ _ => (from_more (by kernel_rfl) (by kernel_rfl) (opens_int Tryd.underlying3) (from_more (by kernel_rfl) (by kernel_rfl) (opens_int Tryd.underlying3) (from_more (by kernel_rfl) (by kernel_rfl) (opens_int Tryd.underlying3) (from_more (by kernel_rfl) (by kernel_rfl) (opens_int Tryd.underlying3) (from_one (by kernel_rfl) (by kernel_rfl) (opens_string Tryd.underlying9))))))) (fun p_ => ⟨⟨p_.1, p_.2.1, p_.2.2.1, p_.2.2.2.1, p_.2.2.2.2⟩, rfl⟩)) (fun _ h_ => h_)
theorem opens_sl22 (n : Nat) : OpensAt Tryd.prog n 22 (Kd.slice 31 k31) (fun x_ => (x_.length ≤ maxLen ∧ x_.length * 48 ≤ 140737488351232 ∧ ∀ y0_ ∈ x_, ((Lit.int .i64 y0_.f0).wf = true ∧ (Lit.int .i64 y0_.f1).wf = true ∧ (Lit.int .i64 y0_.f2).wf = true ∧ (Lit.int .i64 y0_.f3).wf = true ∧ y0_.f4.size ≤ 140737488351232))) := OpensAt.imp (opens_slice (B := 48) 31 Tryd.underlying22 (by kernel_rfl) (by kernel_rfl) (fun _ _ => (opens_k31 _))) (fun _ h_ => h_)
set_option maxRecDepth 100000 in
theorem lifted (os : Os) (started : os.Started) (H : Type) (enc : TypeId × Value → H) (F : Stop.Interp) :
    ReturnsInHanded {} Tryd.checked os 3 .any ((OpenSpec.ofChange Rows.textAppliesSpec).preRow enc Tryd.prog Tryd.f3 Rows.textAppliesRow.domain false Rows.textAppliesRow.laid) (((OpenSpec.ofChange Rows.textAppliesSpec).at F).post enc Tryd.prog Tryd.f3 false true false false) := by
  obtain ⟨places, hx⟩ := reads os enc
  refine returnsInHanded_of_row (C := Tryd.checked) (s := OpenSpec.ofChange Rows.textAppliesSpec) own started (by kernel_rfl) Tryd.func3
    (witness_row_at (enc := enc) (C := Tryd.checked) false (laidWorld os) #[.string ByteArray.empty, .slice none 0 0] rfl (by kernel_rfl) (by kernel_rfl) (by kernel_rfl)
      (OpenSpec.preRow_of_cond 8 hx (by kernel_rfl) (fun k hk => by cases hk) (by kernel_rfl) (laid_met os))) ?_
  intro W base args ds gs before hval0 hW hcnd _ hsz0 hL _ _
  have hT : T8 W := t8_of_laid hL
  have hsz : (DataW.weightsEach Tryd.prog (Tryd.f3.params.toList ++ Rows.textAppliesSpec.plain.varTypes Tryd.prog) (ds ++ gs)).all (· ≤ reachBytes) = true := hsz0
  have hval : ∀ (j : Nat) t v, Tryd.f3.params[j]? = some t → args[j]? = some v → Value.okWide Tryd.prog W .any base t v := hval0
  have hW' : DataW.Whole enc Tryd.prog Tryd.f3.params.toList Rows.textAppliesSpec.vars false W args.toList ds gs before := hW
  obtain ⟨p, q, hA0, hV, rfl, hfz, hnd⟩ := hW
  have hA : DataW.TrodAll enc Tryd.prog W 0 (fun _ => true) true Tryd.f3.params.toList args.toList ds p := hA0
  rw [Tryd.params3] at hA hval hsz
  obtain ⟨v0, vs0, d0, ds0, p0, q0, hargs, rfl, rfl, h0, r0⟩ := trodAll_cons hA
  obtain ⟨v1, vs1, d1, ds1, p1, q1, rfl, rfl, rfl, h1, r1⟩ := trodAll_cons r0
  obtain ⟨rfl, rfl, rfl⟩ := trodAll_nil r1
  obtain rfl : args = #[v0, v1] := by cases args; simp_all
  obtain ⟨rfl, rfl⟩ := trodVars_none hV
  obtain ⟨a0, rfl, rfl, rfl, y0⟩ := open_string Tryd.underlying9 (hval 0 9 v0 rfl rfl) h0
  have w0 : a0.size ≤ 140737488351232 := by
    have z := sized_string hsz (j := 0) (t := 9) rfl rfl
    rw [Array.length_toList] at z
    exact z
  obtain ⟨a1, len1, cap1, rfl⟩ := okWide_slice Tryd.underlying22 (hval 1 22 v1 rfl rfl)
  have k1 := h1
  have lt1 : ∀ x ∈ p1, x.block < W.heap.size := by obtain ⟨m, hm⟩ := k1; exact DataW.trod_lt m _ _ _ hm
  obtain ⟨l1, ⟨A1, c1, he1, hl1, hr1⟩, o1⟩ := OpensAt.arg (fun _ => (opens_sl22 _)) k1 hsz (j := 1) rfl rfl
  simp only [Value.cells, List.cons.injEq, Value.slice.injEq, and_true] at he1
  obtain ⟨rfl, rfl, rfl⟩ := he1
  clear hA0 hval0 hsz0 hsz hcnd
  refine (PApp.parlancelaw07_TextApplies.walk Pure.TextApplies a0 _ _ l1 W w0 hr1 hl1 o1 hT).mono fun e W' ⟨he, bel⟩ => ?_
  subst he
  exact ⟨_, rfl, (⟨_, _, _, [], _, [], hW', trodAll_mk1 (shut_bool Tryd.underlying4 _), (trodAll_cons_mk (shut_string Tryd.underlying9 y0) (trodAll_cons_mk (Below.trod laidOut (by kernel_rfl) (of_decide_eq_true (by kernel_rfl)) k1 bel lt1) trodAll_mk0)), rfl, bel.frame _, fun h => by cases h⟩ : Rows.textAppliesSpec.post enc Tryd.prog Tryd.f3 false true false false W _ _ W')⟩
theorem said : Rows.TextAppliesSaid :=
  OpenClaim.holds_of_cond 3 Tryd.f3 rfl rfl rfl rfl rfl rfl rfl ⟨rfl, rfl, rfl, rfl, rfl⟩ rfl rfl rfl rfl rfl (by kernel_rfl) Tryd.func3 (by kernel_rfl)
    (of_decide_eq_true (by kernel_rfl)) (by unfold Func.isWrapper; first | (rw [if_pos (by decide +kernel)]; kernel_rfl) | (rw [if_neg (by decide +kernel)]; exact ⟨rfl, rfl⟩))
    (fun os started H enc _ F => by rw [OpenClaim.pre_eq_preRow]; exact lifted os started H enc F)
theorem plain (f : FuncId) (fn : Func) (hf : Tryd.pinned.checked.prog.funcNamed "parlance/parlancelaw07.TextApplies" = some f) (hfn : Tryd.pinned.checked.prog.funcs[f]? = some fn) :
    false = Tryd.pinned.checked.prog.looks [] ∧ ∀ (j : Nat) t, fn.params[j]? = some t → Tryd.pinned.checked.prog.wantsStandIn t = false := by
  obtain rfl : f = 3 := Option.some.inj ((show Tryd.prog.funcNamed "parlance/parlancelaw07.TextApplies" = some 3 by kernel_rfl).symm.trans hf) |>.symm
  obtain rfl : fn = Tryd.f3 := (Option.some.inj (Tryd.func3.symm.trans hfn)).symm
  refine ⟨by kernel_rfl, fun j t ht => ?_⟩
  rw [Tryd.params3] at ht
  have hall : ∀ t ∈ (#[9, 22] : Array TypeId), Tryd.prog.wantsStandIn t = false := by
    intro t ht
    simp only [List.mem_toArray, List.mem_cons, List.not_mem_nil, or_false] at ht
    rcases ht with rfl | rfl
    all_goals kernel_rfl
  exact hall t (Array.mem_of_getElem? ht)
theorem card : Rows.TextAppliesCardSaid :=
  Claim7.holds_tied_plain_at .later [] _ _ _ _ said (fun _ h => by cases h) (by kernel_rfl) (fun _ h => by cases h) textApplies_row_tie rfl ⟨rfl, rfl⟩ (by kernel_rfl) rfl plain (by kernel_rfl)
end Go.Proofs.YtjffpcjbbehooaaDoor.textApplies
namespace Go.Proofs.YtjffpcjbbehooaaDoor
/-- The tied card, under a short name, for the claim. -/
theorem textApplies_card : Rows.TextAppliesCardSaid := textApplies.card
end Go.Proofs.YtjffpcjbbehooaaDoor
