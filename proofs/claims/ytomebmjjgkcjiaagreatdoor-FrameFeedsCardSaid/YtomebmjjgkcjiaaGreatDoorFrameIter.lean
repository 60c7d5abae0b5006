/-
  A range over a function, with blocks that the loop's body must leave alone (shy); strings.SplitSeq at a line's end: its iterator's contract.
-/
import Derived.RangeFuncFrom
import Derived.RangeFuncNested
import Derived.Lib.Bytealg
import Derived.Lib.IndexMore
import Derived.Test.YtomebmjjgkcjiaaGreatDoorFrameLow
import Derived.Test.YtomebmjjgkcjiaaGreatDoorWWords
import Derived.Test.YtomebmjjgkcjiaaGreatDoorShelf
import Derived.Lib.OthersKept
import Derived.WalkSmall
import Derived.RangeFuncBound
import Derived.RangeFuncCalls
import Derived.RangeFuncLeaves
import Derived.WalkKit
import Derived.OwnWalkIn
import Derived.TacticsInMore
import Derived.LoopNIn
import Derived.LoopIn
section
namespace Go.Proofs.YtomebmjjgkcjiaaGreatDoor.G
open Go Go.RowKit
/-- All but the blocks X is as it was. -/
structure KeepX (X : Nat → Prop) (A B : World) : Prop where
  os : B.os = A.os
  tape : B.tape = A.tape
  output : B.output = A.output
  size : A.heap.size ≤ B.heap.size
  block : ∀ k, k < A.heap.size → ¬ X k → B.heap[k]? = A.heap[k]?
theorem KeepX.refl (X : Nat → Prop) (A : World) : KeepX X A A := ⟨rfl, rfl, rfl, Nat.le_refl _, fun _ _ _ => rfl⟩
theorem KeepX.trans {X : Nat → Prop} {A B C : World} (h : KeepX X A B) (k : KeepX X B C) : KeepX X A C :=
  ⟨k.os.trans h.os, k.tape.trans h.tape, k.output.trans h.output, Nat.le_trans h.size k.size, fun j hj hx => (k.block j (Nat.lt_of_lt_of_le hj h.size) hx).trans (h.block j hj hx)⟩
theorem KeepX.mono {X Y : Nat → Prop} {A B : World} (h : KeepX X A B) (hxy : ∀ k, k < A.heap.size → X k → Y k) : KeepX Y A B :=
  ⟨h.os, h.tape, h.output, h.size, fun k hk hy => h.block k hk (fun hx => hy (hxy k hk hx))⟩
theorem KeepX.of_below {X : Nat → Prop} {A B : World} (h : Below A.heap.size A B) : KeepX X A B := ⟨h.os, h.tape, h.output, h.size, fun k hk _ => h.block k hk⟩
theorem KeepX.below {X : Nat → Prop} {A B : World} {n : Nat} (h : KeepX X A B) (hn : n ≤ A.heap.size) (hx : ∀ k, k < n → ¬ X k) : Below n A B := ⟨h.os, h.tape, h.output, h.size, fun k hk => h.block k (Nat.lt_of_lt_of_le hk hn) (hx k hk)⟩
theorem KeepX.alloc (X : Nat → Prop) (A : World) (o : Obj) : KeepX X A (A.alloc o) := .of_below ((Below.refl _ _).alloc (Nat.le_refl _) _)
theorem KeepX.put {X : Nat → Prop} (A : World) {l : Nat} (hl : X l) (o : Obj) : KeepX X A (A.putObj l o) :=
  ⟨rfl, rfl, rfl, by simp [World.putObj], fun k _ hx => World.putObj_heap_other (by rintro rfl; exact hx hl)⟩
theorem KeepX.setCell {X : Nat → Prop} (A : World) {b : Nat} (hb : X b) (v : Value) : KeepX X A (A.setCell ⟨b, 0, none⟩ v) := by
  have h := (Below.refl 0 A).setCell (p := ⟨b, 0, none⟩) (Nat.zero_le _) v
  refine ⟨h.os, h.tape, h.output, h.size, fun k hk hx => (grownBy_setCell' A b v).block k hk (fun e => ?_)⟩
  cases e
  exact hx hb
section
variable {n : Nat} {P : Program}
/-- AN ITERATOR's CONTRACT: it tells xs, in this order, as far as its loop goes on; its own blocks are 'own'. The loop's body may turn the blocks X; J, Jx speak of these alone. -/
def IterX {α : Type} (n : Nat) (P : Program) (g : Nat) (lb : Array Value) (encs : α → Array Value) (own shy : Nat → Prop) (xs : List α) (w : World) : Prop :=
  ∀ (l : Nat) (X : Nat → Prop) (J Jx : List α → World → Prop) (W : World), Below w.heap.size w W → (∀ k, X k → k < W.heap.size ∧ ¬ own k ∧ ¬ shy k) →
    (∀ pre A B, J pre A → (∀ k, X k → B.heap[k]? = A.heap[k]?) → J pre B) → (∀ pre A B, Jx pre A → (∀ k, X k → B.heap[k]? = A.heap[k]?) → Jx pre B) →
    (∀ pre x W1, J pre W1 → KeepX (fun k => X k ∨ own k) W W1 → pre ++ [x] <+: xs → YieldAt Fence.wide (n - 1) P l (encs x) W1 fun e W' =>
      KeepX X W1 W' ∧ ((e = .returned (.bool true) ∧ J (pre ++ [x]) W') ∨ (e = .returned (.bool false) ∧ Jx (pre ++ [x]) W'))) →
    J [] W →
    CallsIn Fence.wide n P g (#[.func (.yield l) #[] #[]] ++ lb) W fun e W' => (∃ v, e = .returned v) ∧ KeepX (fun k => X k ∨ own k) W W' ∧ (J xs W' ∨ ∃ pre, pre <+: xs ∧ Jx pre W')
/-- How the body of a round may be left. -/
def postX {α : Type} (Y : Nat → Prop) (I : List α → World → Prop) (Ix : Code → List α → World → Prop) (xs : List α) (W : World) : Exit → Act → World → Prop
  | .normal, _, W' => KeepX Y W W' ∧ I xs W'
  | .ret, _, W' => KeepX Y W W' ∧ Ix .ret xs W'
  | .exit id, _, W' => KeepX Y W W' ∧ Ix (.exit id) xs W'
  | .goto t, _, W' => KeepX Y W W' ∧ Ix (.goto t) xs W'
  | .panic _, _, _ => False
  | .outgrown, _, _ => False
theorem wpIn_rangeX {α : Type} {g : Operand} {ps : Array Tmp} {assign body : Code} {Q : Exit → Act → World → Prop} {a : Act} {w : World}
    (h1 : 1 ≤ n) {gf : Nat} {lb : Array Value} (hg : a.eval g = .func (.func gf) #[] lb) (eg : ∀ args w, (callFunc gf args).run P w = .ok (.enter gf args) w)
    {encs : α → Array Value} {own shy : Nat → Prop} {xs : List α} {w0 : World} (hit : IterX (n - 1) P gf lb encs own shy xs w0) (hb0 : Below w0.heap.size w0 w) (hps : ∀ x, (encs x).size = ps.size)
    (hown : ∀ k, own k → k < w.heap.size) (hshy : ∀ k, shy k → k < w.heap.size) (Y : Nat → Prop) (hY : ∀ k, Y k → k < w.heap.size ∧ ¬ own k ∧ ¬ shy k)
    (I : List α → World → Prop) (Ix : Code → List α → World → Prop)
    (hI : ∀ pre A B, I pre A → (∀ k, Y k → B.heap[k]? = A.heap[k]?) → I pre B) (hIx : ∀ c pre A B, Ix c pre A → (∀ k, Y k → B.heap[k]? = A.heap[k]?) → Ix c pre B)
    (h0 : I [] w) (a₁ : α → Act)
    (hassign : ∀ (l : Nat) (x : α) (W : World) (K : Act → World → Prop), K (a₁ x) W →
      assign.wpIn (Fence.wide.inRound l) (n - 1 - 1) P (Exit.then K (fun _ _ _ => False)) { tmps := (ps.zip (encs x)).foldl (fun t (p, v) => t.setIfInBounds p v) a.tmps, defers := [] } W)
    (hbody : ∀ (l : Nat) (pre : List α) (x : α) (W : World), w.heap.size ≤ l → (∃ r, W.heap[l]? = some (.loop r)) → KeepX (fun k => Y k ∨ own k) w W → I pre W → pre ++ [x] <+: xs → body.wpIn (Fence.wide.inRound l) (n - 1 - 1) P (postX Y I Ix (pre ++ [x]) W) (a₁ x) W)
    (hdone : ∀ (W : World), KeepX (fun k => Y k ∨ own k) w W → I xs W → W.heap[w.heap.size]? = some (.deferred (some [])) → Q .normal { a with defers := { target := .collected w.heap.size, args := #[] } :: a.defers } W)
    (hstop : ∀ (c : Code) (pre : List α) (W : World), KeepX (fun k => Y k ∨ own k) w W → pre <+: xs → Ix c pre W → W.heap[w.heap.size]? = some (.deferred (some [])) → c.wpIn Fence.wide n P Q { a with defers := { target := .collected w.heap.size, args := #[] } :: a.defers } W) :
    (Code.rangeFunc g ps assign body).wpIn Fence.wide n P Q a w := by
  refine wpIn_rangeFunc fun fn hfn => ?_
  obtain ⟨rc, hrc⟩ : ∃ rc : LoopState → Option Code → Loop, rc = fun st pe => { state := st, pending := pe, fn, tmps := a.tmps, params := ps, assign, body, defers := w.heap.size } := ⟨_, rfl⟩
  obtain ⟨V, hV⟩ : ∃ V, (w.alloc (.deferred (some []))).alloc (.loop (rc .ready none)) = V := ⟨_, rfl⟩
  have vL : V.heap[w.heap.size + 1]? = some (.loop (rc .ready none)) := by
    have := World.alloc_heap_new (w.alloc (.deferred (some []))) (.loop (rc .ready none))
    rwa [World.size_alloc, hV] at this
  have vD : V.heap[w.heap.size]? = some (.deferred (some [])) := by
    rw [← hV]
    exact (Below.heap_alloc _ _ _ (by simp)).trans (World.alloc_heap_new w _)
  have vB : Below w.heap.size w V := by rw [← hV]; exact ((Below.refl _ w).alloc (Nat.le_refl _) _).alloc (by simp) _
  have vS : V.heap.size = w.heap.size + 2 := by rw [← hV]; simp
  have vI : I [] V := hI _ _ _ h0 fun k hk => vB.block k (hY k hk).1
  have back : ∀ {Z : World}, KeepX (fun k => (Y k ∨ k = w.heap.size + 1) ∨ own k) V Z → KeepX (fun k => Y k ∨ own k) w Z ∧ Z.heap[w.heap.size]? = some (.deferred (some [])) := fun {Z} h =>
    ⟨⟨h.os.trans vB.os, h.tape.trans vB.tape, h.output.trans vB.output, Nat.le_trans vB.size h.size, fun k hk hx => (h.block k (by omega) (by
      rintro ((hy | he) | ho)
      · exact hx (.inl hy)
      · omega
      · exact hx (.inr ho))).trans (vB.block k hk)⟩,
     (h.block _ (by omega) (by
      rintro ((hy | he) | ho)
      · exact absurd (hY _ hy).1 (by omega)
      · omega
      · exact absurd (hown _ ho) (by omega))).trans vD⟩
  refine ⟨w.heap.size + 1, [{ target := .collected w.heap.size, args := #[] }], V, { target := .fn (.func gf) lb, args := #[.func (.yield (w.heap.size + 1)) #[] #[]] }, V, gf,
    #[.func (.yield (w.heap.size + 1)) #[] #[]] ++ lb, V, ?_, ?_, ?_, ?_, fun _ => h1, ?_⟩
  · rw [← hV, hrc]; exact run_enterLoop_outer _ _ _ _ _
  · simp only [resolve, hg]
    simp [go_sem]
  · intro f' _; trivial
  · simp [invoke, go_sem, eg]
  refine (hit (w.heap.size + 1) (fun k => Y k ∨ k = w.heap.size + 1)
      (fun pre Z => I pre Z ∧ Z.heap[w.heap.size + 1]? = some (.loop (rc .ready none)))
      (fun pre Z => ∃ c, Ix c pre Z ∧ Z.heap[w.heap.size + 1]? = some (.loop (rc .done (some c))))
      V (hb0.trans (vB.mono hb0.size))
      (fun k hk => by
        rcases hk with hy | rfl
        · exact ⟨by have := (hY k hy).1; omega, (hY k hy).2⟩
        · exact ⟨by omega, fun ho => absurd (hown _ ho) (by omega), fun ho => absurd (hshy _ ho) (by omega)⟩)
      (fun pre A B hj hk => ⟨hI _ _ _ hj.1 fun k hy => hk k (.inl hy), (hk _ (.inr rfl)).trans hj.2⟩)
      (fun pre A B hj hk => by obtain ⟨c, hc, hl⟩ := hj; exact ⟨c, hIx _ _ _ _ hc fun k hy => hk k (.inl hy), (hk _ (.inr rfl)).trans hl⟩)
      ?_ ⟨vI, vL⟩).mono ?_
  · rintro pre x Z ⟨hi, hl⟩ hkz hpx
    have hlt : w.heap.size + 1 < Z.heap.size := (Array.getElem?_eq_some_iff.1 hl).1
    have hy := run_yield (P := P) (args := encs x) hl (by rw [hrc]; exact hps x)
    rw [hrc] at hy
    refine ⟨fn, _, assign, body, hy, roundIn_of_wpIn hfn (hassign _ x Z _ ?_)⟩
    clear hy
    refine ⟨_, run_beginRound hl (by rw [hrc]), ?_⟩
    obtain ⟨Z2, hZ2⟩ : ∃ Z2, Z.putObj (w.heap.size + 1) (.loop { rc .ready none with state := .busy }) = Z2 := ⟨_, rfl⟩
    have hl2 : Z2.heap[w.heap.size + 1]? = some (.loop { rc .ready none with state := .busy }) := by rw [← hZ2]; exact World.putObj_heap_same hlt
    have kz2 : KeepX (fun k => Y k ∨ k = w.heap.size + 1) Z Z2 := by rw [← hZ2]; exact KeepX.put Z (.inr rfl) _
    have hi2 : I pre Z2 := hI _ _ _ hi fun k hk => by rw [← hZ2]; exact World.putObj_heap_other (by have := (hY k hk).1; omega)
    have hk2 := (back (hkz.trans (kz2.mono fun k _ h => .inl h))).1
    rw [hZ2]
    refine wpIn_mono (hbody _ pre x Z2 (by omega) ⟨_, hl2⟩ hk2 hi2 hpx) ?_
    have fin : ∀ (jump : Option Code) (Z3 : World), KeepX Y Z2 Z3 →
        (Instr.endRound (w.heap.size + 1) jump).run P Z3 = .ok (.bool jump.isNone) (Z3.putObj (w.heap.size + 1) (.loop (rc (if jump.isNone then .ready else .done) jump))) ∧
        (Z3.putObj (w.heap.size + 1) (.loop (rc (if jump.isNone then .ready else .done) jump))).heap[w.heap.size + 1]? = some (.loop (rc (if jump.isNone then .ready else .done) jump)) ∧
        KeepX (fun k => Y k ∨ k = w.heap.size + 1) Z (Z3.putObj (w.heap.size + 1) (.loop (rc (if jump.isNone then .ready else .done) jump))) ∧
        (∀ k, Y k → (Z3.putObj (w.heap.size + 1) (.loop (rc (if jump.isNone then .ready else .done) jump))).heap[k]? = Z3.heap[k]?) := fun jump Z3 hk3 => by
      have hlt2 : w.heap.size + 1 < Z2.heap.size := (Array.getElem?_eq_some_iff.1 hl2).1
      have hl3 : Z3.heap[w.heap.size + 1]? = some (.loop { rc .ready none with state := .busy }) := (hk3.block _ hlt2 (fun hy => absurd (hY _ hy).1 (by omega))).trans hl2
      have := run_endRound (P := P) jump hl3
      refine ⟨by rw [this]; rw [hrc], World.putObj_heap_same (Array.getElem?_eq_some_iff.1 hl3).1, kz2.trans ((hk3.mono fun k _ h => .inl h).trans (KeepX.put Z3 (.inr rfl) _)), fun k hk => World.putObj_heap_other (by have := (hY k hk).1; omega)⟩
    rintro e a3 Z3 hp
    cases e with
    | normal =>
      obtain ⟨hk3, hi3⟩ := hp
      obtain ⟨hr, hl4, hk4, hy4⟩ := fin none Z3 hk3
      exact ⟨_, _, hr, hk4, .inl ⟨rfl, hI _ _ _ hi3 hy4, hl4⟩⟩
    | ret =>
      obtain ⟨hk3, hi3⟩ := hp
      obtain ⟨hr, hl4, hk4, hy4⟩ := fin (some .ret) Z3 hk3
      exact ⟨_, _, hr, hk4, .inr ⟨rfl, .ret, hIx _ _ _ _ hi3 hy4, hl4⟩⟩
    | exit id =>
      obtain ⟨hk3, hi3⟩ := hp
      obtain ⟨hr, hl4, hk4, hy4⟩ := fin (some (.exit id)) Z3 hk3
      exact ⟨_, _, hr, hk4, .inr ⟨rfl, .exit id, hIx _ _ _ _ hi3 hy4, hl4⟩⟩
    | goto t =>
      obtain ⟨hk3, hi3⟩ := hp
      obtain ⟨hr, hl4, hk4, hy4⟩ := fin (some (.goto t)) Z3 hk3
      exact ⟨_, _, hr, hk4, .inr ⟨rfl, .goto t, hIx _ _ _ _ hi3 hy4, hl4⟩⟩
    | panic ch => exact hp.elim
    | outgrown => exact hp.elim
  · rintro e Z ⟨⟨v, rfl⟩, hk, (⟨hi, hl⟩ | ⟨pre, hpx, c, hi, hl⟩)⟩
    · have hend := run_endLoop (P := P) hl (by rw [hrc]; simp)
      have hk2 := back (hk.trans (KeepX.put Z (.inl (.inr rfl)) (.loop { rc .ready none with state := .exhausted })))
      refine ⟨none, _, ?_, hdone _ hk2.1 (hI _ _ _ hi fun k hy => World.putObj_heap_other (by have := (hY k hy).1; omega)) hk2.2⟩
      rw [hend, hrc]
    · have hend := run_endLoop (P := P) hl (by rw [hrc]; simp)
      have hk2 := back (hk.trans (KeepX.put Z (.inl (.inr rfl)) (.loop { rc .done (some c) with state := .exhausted })))
      refine ⟨some c, _, ?_, hstop c pre _ hk2.1 hpx (hIx _ _ _ _ hi fun k hy => World.putObj_heap_other (by have := (hY k hy).1; omega)) hk2.2⟩
      rw [hend, hrc]
end
end Go.Proofs.YtomebmjjgkcjiaaGreatDoor.G
end
section
namespace Go.Proofs.YtomebmjjgkcjiaaGreatDoor.G
open Go.Lib
abbrev crlf : List UInt8 := [13, 10]
/-- What stands between line ends. -/
def splitGo : Nat → List UInt8 → List (List UInt8)
  | 0, l => [l]
  | n + 1, l => if index l crlf = -1 then [l] else l.take (index l crlf).toNat :: splitGo n (l.drop ((index l crlf).toNat + 2))
def splitC (l : List UInt8) : List (List UInt8) := splitGo l.length l
theorem splitGo_fuel : ∀ (n m : Nat) (l : List UInt8), l.length ≤ n → l.length ≤ m → splitGo n l = splitGo m l
  | 0, 0, _, _, _ => rfl
  | 0, m + 1, l, h, _ => by
    obtain rfl : l = [] := List.eq_nil_of_length_eq_zero (by omega)
    rfl
  | n + 1, 0, l, _, h => by
    obtain rfl : l = [] := List.eq_nil_of_length_eq_zero (by omega)
    rfl
  | n + 1, m + 1, l, h1, h2 => by
    unfold splitGo
    split
    · rfl
    · rename_i hn
      have hr := index_room l crlf (by have := index_ge l crlf; omega)
      have hl : (crlf.length : Int) = 2 := rfl
      rw [splitGo_fuel n m _ (by rw [List.length_drop]; omega) (by rw [List.length_drop]; omega)]
theorem splitC_end (l : List UInt8) (h : index l crlf = -1) : splitC l = [l] := by
  unfold splitC
  cases l with
  | nil => rfl
  | cons b t => simp only [List.length_cons, splitGo, h, if_true]
theorem splitC_step (l : List UInt8) (i : Nat) (h : index l crlf = (i : Int)) : i + 2 ≤ l.length ∧ splitC l = l.take i :: splitC (l.drop (i + 2)) := by
  have hr := index_room l crlf (by omega)
  have hl : (crlf.length : Int) = 2 := rfl
  refine ⟨by omega, ?_⟩
  have hn : ¬ index l crlf = -1 := by omega
  unfold splitC
  obtain ⟨n, hnl⟩ : ∃ n, l.length = n + 1 := ⟨l.length - 1, by omega⟩
  rw [hnl, splitGo, if_neg hn, h, Int.toNat_natCast]
  rw [splitGo_fuel n _ _ (by rw [List.length_drop]; omega) (Nat.le_refl _)]
def ofL (l : List UInt8) : ByteArray := ⟨l.toArray⟩
theorem ofL_data (l : List UInt8) : (ofL l).data.toList = l := rfl
theorem ofL_size (l : List UInt8) : (ofL l).size = l.length := by
  show l.toArray.size = _
  simp
theorem ofL_of (s : ByteArray) : ofL s.data.toList = s := rfl
theorem extract_data (s : ByteArray) (a b : Nat) : (s.extract a b).data.toList = (s.data.toList.take b).drop a := by
  rw [ByteArray.data_extract, Array.toList_extract]
  simp [List.extract, List.drop_take]
def splitC' (s : ByteArray) : List ByteArray := (splitC s.data.toList).map ofL
theorem splitC'_end (s : ByteArray) (h : index s.data.toList [13, 10] = -1) : splitC' s = [s] := by
  unfold splitC'
  rw [splitC_end _ h]
  rfl
theorem splitC'_step (s : ByteArray) (i : Nat) (h : index s.data.toList [13, 10] = (i : Int)) : i + 2 ≤ s.size ∧ splitC' s = s.extract 0 i :: splitC' (s.extract (i + 2) s.size) := by
  obtain ⟨hi, hs⟩ := splitC_step _ i h
  have hz : s.data.toList.length = s.size := Array.length_toList
  refine ⟨by omega, ?_⟩
  have e1 : s.extract 0 i = ofL (s.data.toList.take i) := by
    have := extract_data s 0 i
    rw [List.drop_zero] at this
    rw [← this, ofL_of]
  have e2 : (s.extract (i + 2) s.size).data.toList = s.data.toList.drop (i + 2) := by
    rw [extract_data s _ _, List.take_of_length_le (by omega)]
  unfold splitC'
  rw [hs, e1, e2]
  rfl
end Go.Proofs.YtomebmjjgkcjiaaGreatDoor.G
end
section
set_option linter.unusedVariables false
namespace Go.Proofs.YtomebmjjgkcjiaaGreatDoor.G
open Go.RowKit Go.Lib Go.Proofs.YtomebmjjgkcjiaaGreatDoorW.PrintWords
attribute [local go_sem] Oper.semAt_some
theorem index_calls (s : ByteArray) (m : Int) (w : World) (hs : s.size < 4294967281) (hm : w.cell? ⟨0, 0, none⟩ = some (.int .i64 m)) : Calls Tryz.prog 55 #[.string s, .string ⟨#[13, 10]⟩] w fun e w' => e = .returned (.int .i64 (index s.data.toList [13, 10])) ∧ w' = w :=
  Any.strings_Index Tryz.lays143 s ⟨#[13, 10]⟩ m w hs hm
def strAt (w : World) (b : Nat) : Nat := match w.cell? ⟨b, 0, none⟩ with
  | some (.string s) => s.size
  | _ => 0
theorem strAt_of {w : World} {b : Nat} {s : ByteArray} {t : TypeId} (h : Boxed w b t (.string s)) : strAt w b = s.size := by
  unfold strAt
  rw [h.cell]
theorem Boxed.keep {X : Nat → Prop} {A B : World} {b : Nat} {t : TypeId} {v : Value} (h : Boxed A b t v) (hk : KeepX X A B) (hx : ¬ X b) : Boxed B b t v := (hk.block b h.lt hx).trans h
abbrev encS (x : ByteArray) : Array Value := #[.string x]
set_option maxHeartbeats 4000000 in
set_option maxRecDepth 100000 in
theorem split_iter (n : Nat) (s : ByteArray) (Bs Bp Bv : Nat) (w : World) (hsz : s.size ≤ 4294967280) (h12 : Bs ≠ Bp) (h13 : Bs ≠ Bv)
    (hs : Boxed w Bs 9 (.string s)) (hp : Boxed w Bp 9 (.string ⟨#[13, 10]⟩)) (hv : Boxed w Bv 3 (.int .i64 0)) (hm : ∃ m, w.cell? ⟨0, 0, none⟩ = some (.int .i64 m)) (hmn : ∀ k, (k = Bs ∨ k = Bp ∨ k = Bv) → 0 ≠ k) :
    IterX n Tryz.prog 53 #[.pointer (some ⟨Bp, 0, none⟩), .pointer (some ⟨Bs, 0, none⟩), .pointer (some ⟨Bv, 0, none⟩)] encS (fun k => k = Bs ∨ k = Bp ∨ k = Bv) (fun k => k = 0) (splitC' s) w := fun l X J Jx W hW hX hJ hJx hY h0 => by
  have hs0 : Boxed W Bs 9 (.string s) := (hW.block Bs hs.lt).trans hs
  have hp0 : Boxed W Bp 9 (.string ⟨#[13, 10]⟩) := (hW.block Bp hp.lt).trans hp
  have hv0 : Boxed W Bv 3 (.int .i64 0) := (hW.block Bv hv.lt).trans hv
  have xs : ¬ X Bs := fun h => (hX _ h).2.1 (.inl rfl)
  have xp : ¬ X Bp := fun h => (hX _ h).2.1 (.inr (.inl rfl))
  have xv : ¬ X Bv := fun h => (hX _ h).2.1 (.inr (.inr rfl))
  have HM := Aside0.mk (fun (wr : World) (hk : KeepX (fun k => X k ∨ k = Bs ∨ k = Bp ∨ k = Bv) W wr) => (show ∃ m, wr.cell? ⟨0, 0, none⟩ = some (.int .i64 m) from by
    obtain ⟨m, hm⟩ := hm
    have hlt := World.block_lt_of_cell? w _ hm
    refine ⟨m, ?_⟩
    rw [← hm, ← hW.cell hlt]
    refine World.cell?_of_block (hk.block _ (Nat.lt_of_lt_of_le hlt hW.size) ?_)
    rintro (h | h)
    · exact (hX _ h).2.2 rfl
    · exact hmn _ h rfl))
  have HY := Aside0.mk hY
  have HJ := Aside0.mk hJ
  have H0 := Aside0.mk h0
  have HX := Aside0.mk (And.intro xs (And.intro xp xv))
  have HN := Aside0.mk (And.intro h12 h13)
  have HXB := Aside0.mk hX
  have HZ := Aside0.mk hsz
  have HS0 := Aside0.mk hs0
  have HP0 := Aside0.mk hp0
  have HV0 := Aside0.mk hv0
  have c2 := hp0.cell
  have c1 := hs0.cell
  have c3 := hv0.cell
  clear hY hJ h0 xs xp xv h12 h13 hsz hJx hX hW hs hp hv hs0 hp0 hv0 hm hmn
  refine callsIn_of_wp Tryz.func53 rfl trivial ?_ rfl
  simp only [Tryz.ntmps53, List.size_toArray, List.length_cons, List.length_nil, Nat.reduceAdd, Nat.reduceSub, Array.replicate_succ, Array.replicate_zero, List.push_toArray, List.append_toArray, List.nil_append, List.cons_append]
  gi_wp2
  gi_loopw [7, 8] (fun v7 v8 wr => ∃ (pre : List ByteArray) (cur : ByteArray), Aside0 (Boxed wr Bs 9 (.string cur)) ∧ Aside0 (Boxed wr Bp 9 (.string ⟨#[13, 10]⟩)) ∧ Aside0 (Boxed wr Bv 3 (.int .i64 0)) ∧ Aside0 (J pre wr) ∧ Aside0 (KeepX (fun k => X k ∨ k = Bs ∨ k = Bp ∨ k = Bv) W wr) ∧ Aside0 (pre ++ splitC' cur = splitC' s ∧ cur.size ≤ s.size))
    (fun v7 v8 wr => strAt wr Bs)
  case atStart => exact ⟨[], s, HS0, HP0, HV0, H0, ⟨KeepX.refl _ _⟩, ⟨rfl, Nat.le_refl _⟩⟩
  case round =>
    obtain ⟨pre, cur, BS, BP, BV, HJr, HK, HQ⟩ := hrel
    obtain ⟨hq1, hq2⟩ := HQ.out
    have hb1 := BS.out.cell
    have hb2 := BP.out.cell
    have hb3 := BV.out.cell
    have hf1 := BS.out.frozen
    have hge := index_ge cur.data.toList [13, 10]
    obtain ⟨m, hm⟩ := HM.out wr HK.out
    have IX := Aside0.mk (index_calls cur m wr (by have := HZ.out; omega) hm)
    clear hm
    by_cases hneg : index cur.data.toList [13, 10] = -1
    · rw [hneg] at IX
      rw [splitC'_end cur hneg] at hq1
      have HE := Aside0.mk hq1
      obtain ⟨fn, tmps, assign, body, hy, hR⟩ := HY.out pre cur wr HJr.out HK.out (by rw [hq1]; exact List.prefix_refl _)
      dsimp only [encS] at hy
      have HR := Aside0.mk hR
      clear hR hq1 hq2 HQ hge hneg
      gi_wp2_with (refine ⟨trivial, (fun h => by cases h), ?_⟩; refine (callsIn_wide.2 IX.out).mono ?_; rintro e w' ⟨rfl, rfl⟩)
      refine ⟨(fun h => by cases h), HR.out.mono ?_⟩
      rintro e W3 ⟨hk3, (⟨rfl, hJ3⟩ | ⟨rfl, hJx3⟩)⟩
      · have HK3 := HK.out.trans (hk3.mono fun k _ h => .inl h)
        gi_wp2
        go_end0
        exact ⟨⟨_, rfl⟩, HK3, .inl (by rw [← HE.out]; exact hJ3)⟩
      · have HK3 := HK.out.trans (hk3.mono fun k _ h => .inl h)
        gi_wp2
        go_end0
        exact ⟨⟨_, rfl⟩, HK3, .inr ⟨pre ++ [cur], by rw [HE.out]; exact List.prefix_refl _, hJx3⟩⟩
    · obtain ⟨i, hi⟩ : ∃ i : Nat, index cur.data.toList [13, 10] = (i : Int) := ⟨(index cur.data.toList [13, 10]).toNat, by omega⟩
      rw [hi] at IX
      obtain ⟨hlt, hstep⟩ := splitC'_step cur i hi
      rw [hstep] at hq1
      have HE := Aside0.mk hq1
      obtain ⟨fn, tmps, assign, body, hy, hR⟩ := HY.out pre (cur.extract 0 i) wr HJr.out HK.out (by rw [← hq1]; exact ⟨_, by rw [List.append_assoc]; rfl⟩)
      dsimp only [encS] at hy
      have HR := Aside0.mk hR
      have hi0 : (0 : Int) ≤ (i : Int) := by omega
      have hi1 : (i : Int) ≤ (cur.size : Int) := by omega
      have hw : wrap64 (i : Int) = (i : Int) := by unfold wrap64; have := HZ.out; omega
      have hw1 : wrap64 ((i : Int) + 2) = ((i + 2 : Nat) : Int) := by unfold wrap64; have := HZ.out; omega
      have hi2 : (0 : Int) ≤ ((i + 2 : Nat) : Int) := by omega
      have hi3 : ((i + 2 : Nat) : Int) ≤ (cur.size : Int) := by omega
      have hn0 : ¬ ((i : Int) < 0) := by omega
      have Hlt := Aside0.mk hlt
      clear hR hq1 HQ hge hneg hi hstep hlt
      gi_wp2_with (refine ⟨trivial, (fun h => by cases h), ?_⟩; refine (callsIn_wide.2 IX.out).mono ?_; rintro e w' ⟨rfl, rfl⟩)
      refine ⟨(fun h => by cases h), HR.out.mono ?_⟩
      rintro e W3 ⟨hk3, (⟨rfl, hJ3⟩ | ⟨rfl, hJx3⟩)⟩
      · have HK3 := Aside0.mk (HK.out.trans (hk3.mono fun k _ h => .inl h))
        have B1 := Aside0.mk (Boxed.keep BS.out hk3 HX.out.1)
        have B2 := Aside0.mk (Boxed.keep BP.out hk3 HX.out.2.1)
        have B3 := Aside0.mk (Boxed.keep BV.out hk3 HX.out.2.2)
        have d1 := B1.out.cell
        have d2 := B2.out.cell
        have d3 := B3.out.cell
        have f1 := B1.out.frozen
        have HJ3 := Aside0.mk hJ3
        have MS := Aside0.mk (strAt_of BS.out)
        clear hJ3 hb1 hb2 hb3 hf1 hk3 hy
        gi_wp2
        go_roundw
        case rel =>
          refine ⟨pre ++ [cur.extract 0 i], cur.extract (i + 2) cur.size, ⟨B1.out.set _⟩, ⟨B2.out.other (Ne.symm HN.out.1) _⟩, ⟨B3.out.other (Ne.symm HN.out.2) _⟩, ⟨HJ.out _ _ _ HJ3.out fun k hk => ?_⟩, ⟨HK3.out.trans (KeepX.setCell W3 (.inr (.inl rfl)) _)⟩, ⟨by rw [List.append_assoc]; exact HE.out, ?_⟩⟩
          · exact (KeepX.setCell (X := fun k => k = Bs) W3 rfl _).block k (Nat.lt_of_lt_of_le (HXB.out k hk).1 HK3.out.size) (fun e => (HXB.out k hk).2.1 (.inl e))
          · rw [ByteArray.size_extract]
            omega
        case measure =>
          rw [strAt_of (B1.out.set _), MS.out, ByteArray.size_extract]
          have := Hlt.out
          omega
      · have HK3 := HK.out.trans (hk3.mono fun k _ h => .inl h)
        gi_wp2
        refine bodyPost_ret (results_none rfl _ _ _) rfl ?_
        exact ⟨⟨_, rfl⟩, HK3, .inr ⟨pre ++ [cur.extract 0 i], by rw [← HE.out]; exact ⟨_, by rw [List.append_assoc]; rfl⟩, hJx3⟩⟩
end Go.Proofs.YtomebmjjgkcjiaaGreatDoor.G
end
