/-
  A range over a function whose iterator itself ranges over a function: contracts that say which blocks a round may turn (X), and that all else is as it was.
-/
import Derived.RangeFuncFrom
import Derived.RangeFuncNested
namespace Go.Proofs.YtjffpcjbbehooaaDoor.G
open Go Go.RowKit
/-- All but the blocks X is as it was. -/
structure KeepX (X : Nat → Prop) (A B : World) : Prop where
  os : B.os = A.os
  tape : B.tape = A.tape
  output : B.output = A.output
  size : A.heap.size ≤ B.heap.size
  block : ∀ k, k < A.heap.size → ¬ X k → B.heap[k]? = A.heap[k]?
theorem KeepX.refl (X : Nat → Prop) (A : World) : KeepX X A A := ⟨rfl, rfl, rfl, Nat.le_refl _, fun _ _ _ => rfl⟩
theorem KeepX.trans {X : Nat → Prop} {A B C : World} (h : KeepX X A B) (k : KeepX X B C) : KeepX X A C :=
  ⟨k.os.trans h.os, k.tape.trans h.tape, k.output.trans h.output, Nat.le_trans h.size k.size, fun j hj hx => (k.block j (Nat.lt_of_lt_of_le hj h.size) hx).trans (h.block j hj hx)⟩
theorem KeepX.mono {X Y : Nat → Prop} {A B : World} (h : KeepX X A B) (hxy : ∀ k, k < A.heap.size → X k → Y k) : KeepX Y A B :=
  ⟨h.os, h.tape, h.output, h.size, fun k hk hy => h.block k hk (fun hx => hy (hxy k hk hx))⟩
theorem KeepX.of_below {X : Nat → Prop} {A B : World} (h : Below A.heap.size A B) : KeepX X A B := ⟨h.os, h.tape, h.output, h.size, fun k hk _ => h.block k hk⟩
theorem KeepX.below {X : Nat → Prop} {A B : World} {n : Nat} (h : KeepX X A B) (hn : n ≤ A.heap.size) (hx : ∀ k, k < n → ¬ X k) : Below n A B := ⟨h.os, h.tape, h.output, h.size, fun k hk => h.block k (Nat.lt_of_lt_of_le hk hn) (hx k hk)⟩
theorem KeepX.alloc (X : Nat → Prop) (A : World) (o : Obj) : KeepX X A (A.alloc o) := .of_below ((Below.refl _ _).alloc (Nat.le_refl _) _)
theorem KeepX.put {X : Nat → Prop} (A : World) {l : Nat} (hl : X l) (o : Obj) : KeepX X A (A.putObj l o) :=
  ⟨rfl, rfl, rfl, by simp [World.putObj], fun k _ hx => World.putObj_heap_other (by rintro rfl; exact hx hl)⟩
theorem KeepX.setCell {X : Nat → Prop} (A : World) {b : Nat} (hb : X b) (v : Value) : KeepX X A (A.setCell ⟨b, 0, none⟩ v) := by
  have h := (Below.refl 0 A).setCell (p := ⟨b, 0, none⟩) (Nat.zero_le _) v
  refine ⟨h.os, h.tape, h.output, h.size, fun k hk hx => (grownBy_setCell' A b v).block k hk (fun e => ?_)⟩
  cases e
  exact hx hb
section
variable {n : Nat} {P : Program}
/-- AN ITERATOR's CONTRACT: it tells xs, in this order, as far as its loop goes on; its own blocks are 'own'. The loop's body may turn the blocks X; J, Jx speak of these alone. -/
def IterX {α : Type} (n : Nat) (P : Program) (g : Nat) (lb : Array Value) (encs : α → Array Value) (own : Nat → Prop) (xs : List α) (w : World) : Prop :=
  ∀ (l : Nat) (X : Nat → Prop) (J Jx : List α → World → Prop) (W : World), Below w.heap.size w W → (∀ k, X k → k < W.heap.size ∧ ¬ own k) →
    (∀ pre A B, J pre A → (∀ k, X k → B.heap[k]? = A.heap[k]?) → J pre B) → (∀ pre A B, Jx pre A → (∀ k, X k → B.heap[k]? = A.heap[k]?) → Jx pre B) →
    (∀ pre x W1, J pre W1 → KeepX (fun k => X k ∨ own k) W W1 → pre ++ [x] <+: xs → YieldAt Fence.wide (n - 1) P l (encs x) W1 fun e W' =>
      KeepX X W1 W' ∧ ((e = .returned (.bool true) ∧ J (pre ++ [x]) W') ∨ (e = .returned (.bool false) ∧ Jx (pre ++ [x]) W'))) →
    J [] W →
    CallsIn Fence.wide n P g (#[.func (.yield l) #[] #[]] ++ lb) W fun e W' => (∃ v, e = .returned v) ∧ KeepX (fun k => X k ∨ own k) W W' ∧ (J xs W' ∨ ∃ pre, pre <+: xs ∧ Jx pre W')
/-- How the body of a round may be left. -/
def postX {α : Type} (Y : Nat → Prop) (I : List α → World → Prop) (Ix : Code → List α → World → Prop) (xs : List α) (W : World) : Exit → Act → World → Prop
  | .normal, _, W' => KeepX Y W W' ∧ I xs W'
  | .ret, _, W' => KeepX Y W W' ∧ Ix .ret xs W'
  | .exit id, _, W' => KeepX Y W W' ∧ Ix (.exit id) xs W'
  | .goto t, _, W' => KeepX Y W W' ∧ Ix (.goto t) xs W'
  | .panic _, _, _ => False
  | .outgrown, _, _ => False
theorem wpIn_rangeX {α : Type} {g : Operand} {ps : Array Tmp} {assign body : Code} {Q : Exit → Act → World → Prop} {a : Act} {w : World}
    (h1 : 1 ≤ n) {gf : Nat} {lb : Array Value} (hg : a.eval g = .func (.func gf) #[] lb) (eg : ∀ args w, (callFunc gf args).run P w = .ok (.enter gf args) w)
    {encs : α → Array Value} {own : Nat → Prop} {xs : List α} {w0 : World} (hit : IterX (n - 1) P gf lb encs own xs w0) (hb0 : Below w0.heap.size w0 w) (hps : ∀ x, (encs x).size = ps.size)
    (hown : ∀ k, own k → k < w.heap.size) (Y : Nat → Prop) (hY : ∀ k, Y k → k < w.heap.size ∧ ¬ own k)
    (I : List α → World → Prop) (Ix : Code → List α → World → Prop)
    (hI : ∀ pre A B, I pre A → (∀ k, Y k → B.heap[k]? = A.heap[k]?) → I pre B) (hIx : ∀ c pre A B, Ix c pre A → (∀ k, Y k → B.heap[k]? = A.heap[k]?) → Ix c pre B)
    (h0 : I [] w) (a₁ : α → Act)
    (hassign : ∀ (l : Nat) (x : α) (W : World) (K : Act → World → Prop), K (a₁ x) W →
      assign.wpIn (Fence.wide.inRound l) (n - 1 - 1) P (Exit.then K (fun _ _ _ => False)) { tmps := (ps.zip (encs x)).foldl (fun t (p, v) => t.setIfInBounds p v) a.tmps, defers := [] } W)
    (hbody : ∀ (l : Nat) (pre : List α) (x : α) (W : World), w.heap.size ≤ l → (∃ r, W.heap[l]? = some (.loop r)) → KeepX (fun k => Y k ∨ own k) w W → I pre W → pre ++ [x] <+: xs → body.wpIn (Fence.wide.inRound l) (n - 1 - 1) P (postX Y I Ix (pre ++ [x]) W) (a₁ x) W)
    (hdone : ∀ (W : World), KeepX (fun k => Y k ∨ own k) w W → I xs W → W.heap[w.heap.size]? = some (.deferred (some [])) → Q .normal { a with defers := { target := .collected w.heap.size, args := #[] } :: a.defers } W)
    (hstop : ∀ (c : Code) (pre : List α) (W : World), KeepX (fun k => Y k ∨ own k) w W → pre <+: xs → Ix c pre W → W.heap[w.heap.size]? = some (.deferred (some [])) → c.wpIn Fence.wide n P Q { a with defers := { target := .collected w.heap.size, args := #[] } :: a.defers } W) :
    (Code.rangeFunc g ps assign body).wpIn Fence.wide n P Q a w := by
  refine wpIn_rangeFunc fun fn hfn => ?_
  obtain ⟨rc, hrc⟩ : ∃ rc : LoopState → Option Code → Loop, rc = fun st pe => { state := st, pending := pe, fn, tmps := a.tmps, params := ps, assign, body, defers := w.heap.size } := ⟨_, rfl⟩
  obtain ⟨V, hV⟩ : ∃ V, (w.alloc (.deferred (some []))).alloc (.loop (rc .ready none)) = V := ⟨_, rfl⟩
  have vL : V.heap[w.heap.size + 1]? = some (.loop (rc .ready none)) := by
    have := World.alloc_heap_new (w.alloc (.deferred (some []))) (.loop (rc .ready none))
    rwa [World.size_alloc, hV] at this
  have vD : V.heap[w.heap.size]? = some (.deferred (some [])) := by
    rw [← hV]
    exact (Below.heap_alloc _ _ _ (by simp)).trans (World.alloc_heap_new w _)
  have vB : Below w.heap.size w V := by rw [← hV]; exact ((Below.refl _ w).alloc (Nat.le_refl _) _).alloc (by simp) _
  have vS : V.heap.size = w.heap.size + 2 := by rw [← hV]; simp
  have vI : I [] V := hI _ _ _ h0 fun k hk => vB.block k (hY k hk).1
  have back : ∀ {Z : World}, KeepX (fun k => (Y k ∨ k = w.heap.size + 1) ∨ own k) V Z → KeepX (fun k => Y k ∨ own k) w Z ∧ Z.heap[w.heap.size]? = some (.deferred (some [])) := fun {Z} h =>
    ⟨⟨h.os.trans vB.os, h.tape.trans vB.tape, h.output.trans vB.output, Nat.le_trans vB.size h.size, fun k hk hx => (h.block k (by omega) (by
      rintro ((hy | he) | ho)
      · exact hx (.inl hy)
      · omega
      · exact hx (.inr ho))).trans (vB.block k hk)⟩,
     (h.block _ (by omega) (by
      rintro ((hy | he) | ho)
      · exact absurd (hY _ hy).1 (by omega)
      · omega
      · exact absurd (hown _ ho) (by omega))).trans vD⟩
  refine ⟨w.heap.size + 1, [{ target := .collected w.heap.size, args := #[] }], V, { target := .fn (.func gf) lb, args := #[.func (.yield (w.heap.size + 1)) #[] #[]] }, V, gf,
    #[.func (.yield (w.heap.size + 1)) #[] #[]] ++ lb, V, ?_, ?_, ?_, ?_, fun _ => h1, ?_⟩
  · rw [← hV, hrc]; exact run_enterLoop_outer _ _ _ _ _
  · simp only [resolve, hg]
    simp [go_sem]
  · intro f' _; trivial
  · simp [invoke, go_sem, eg]
  refine (hit (w.heap.size + 1) (fun k => Y k ∨ k = w.heap.size + 1)
      (fun pre Z => I pre Z ∧ Z.heap[w.heap.size + 1]? = some (.loop (rc .ready none)))
      (fun pre Z => ∃ c, Ix c pre Z ∧ Z.heap[w.heap.size + 1]? = some (.loop (rc .done (some c))))
      V (hb0.trans (vB.mono hb0.size))
      (fun k hk => by
        rcases hk with hy | rfl
        · exact ⟨by have := (hY k hy).1; omega, (hY k hy).2⟩
        · exact ⟨by omega, fun ho => absurd (hown _ ho) (by omega)⟩)
      (fun pre A B hj hk => ⟨hI _ _ _ hj.1 fun k hy => hk k (.inl hy), (hk _ (.inr rfl)).trans hj.2⟩)
      (fun pre A B hj hk => by obtain ⟨c, hc, hl⟩ := hj; exact ⟨c, hIx _ _ _ _ hc fun k hy => hk k (.inl hy), (hk _ (.inr rfl)).trans hl⟩)
      ?_ ⟨vI, vL⟩).mono ?_
  · rintro pre x Z ⟨hi, hl⟩ hkz hpx
    have hlt : w.heap.size + 1 < Z.heap.size := (Array.getElem?_eq_some_iff.1 hl).1
    have hy := run_yield (P := P) (args := encs x) hl (by rw [hrc]; exact hps x)
    rw [hrc] at hy
    refine ⟨fn, _, assign, body, hy, roundIn_of_wpIn hfn (hassign _ x Z _ ?_)⟩
    clear hy
    refine ⟨_, run_beginRound hl (by rw [hrc]), ?_⟩
    obtain ⟨Z2, hZ2⟩ : ∃ Z2, Z.putObj (w.heap.size + 1) (.loop { rc .ready none with state := .busy }) = Z2 := ⟨_, rfl⟩
    have hl2 : Z2.heap[w.heap.size + 1]? = some (.loop { rc .ready none with state := .busy }) := by rw [← hZ2]; exact World.putObj_heap_same hlt
    have kz2 : KeepX (fun k => Y k ∨ k = w.heap.size + 1) Z Z2 := by rw [← hZ2]; exact KeepX.put Z (.inr rfl) _
    have hi2 : I pre Z2 := hI _ _ _ hi fun k hk => by rw [← hZ2]; exact World.putObj_heap_other (by have := (hY k hk).1; omega)
    have hk2 := (back (hkz.trans (kz2.mono fun k _ h => .inl h))).1
    rw [hZ2]
    refine wpIn_mono (hbody _ pre x Z2 (by omega) ⟨_, hl2⟩ hk2 hi2 hpx) ?_
    have fin : ∀ (jump : Option Code) (Z3 : World), KeepX Y Z2 Z3 →
        (Instr.endRound (w.heap.size + 1) jump).run P Z3 = .ok (.bool jump.isNone) (Z3.putObj (w.heap.size + 1) (.loop (rc (if jump.isNone then .ready else .done) jump))) ∧
        (Z3.putObj (w.heap.size + 1) (.loop (rc (if jump.isNone then .ready else .done) jump))).heap[w.heap.size + 1]? = some (.loop (rc (if jump.isNone then .ready else .done) jump)) ∧
        KeepX (fun k => Y k ∨ k = w.heap.size + 1) Z (Z3.putObj (w.heap.size + 1) (.loop (rc (if jump.isNone then .ready else .done) jump))) ∧
        (∀ k, Y k → (Z3.putObj (w.heap.size + 1) (.loop (rc (if jump.isNone then .ready else .done) jump))).heap[k]? = Z3.heap[k]?) := fun jump Z3 hk3 => by
      have hlt2 : w.heap.size + 1 < Z2.heap.size := (Array.getElem?_eq_some_iff.1 hl2).1
      have hl3 : Z3.heap[w.heap.size + 1]? = some (.loop { rc .ready none with state := .busy }) := (hk3.block _ hlt2 (fun hy => absurd (hY _ hy).1 (by omega))).trans hl2
      have := run_endRound (P := P) jump hl3
      refine ⟨by rw [this]; rw [hrc], World.putObj_heap_same (Array.getElem?_eq_some_iff.1 hl3).1, kz2.trans ((hk3.mono fun k _ h => .inl h).trans (KeepX.put Z3 (.inr rfl) _)), fun k hk => World.putObj_heap_other (by have := (hY k hk).1; omega)⟩
    rintro e a3 Z3 hp
    cases e with
    | normal =>
      obtain ⟨hk3, hi3⟩ := hp
      obtain ⟨hr, hl4, hk4, hy4⟩ := fin none Z3 hk3
      exact ⟨_, _, hr, hk4, .inl ⟨rfl, hI _ _ _ hi3 hy4, hl4⟩⟩
    | ret =>
      obtain ⟨hk3, hi3⟩ := hp
      obtain ⟨hr, hl4, hk4, hy4⟩ := fin (some .ret) Z3 hk3
      exact ⟨_, _, hr, hk4, .inr ⟨rfl, .ret, hIx _ _ _ _ hi3 hy4, hl4⟩⟩
    | exit id =>
      obtain ⟨hk3, hi3⟩ := hp
      obtain ⟨hr, hl4, hk4, hy4⟩ := fin (some (.exit id)) Z3 hk3
      exact ⟨_, _, hr, hk4, .inr ⟨rfl, .exit id, hIx _ _ _ _ hi3 hy4, hl4⟩⟩
    | goto t =>
      obtain ⟨hk3, hi3⟩ := hp
      obtain ⟨hr, hl4, hk4, hy4⟩ := fin (some (.goto t)) Z3 hk3
      exact ⟨_, _, hr, hk4, .inr ⟨rfl, .goto t, hIx _ _ _ _ hi3 hy4, hl4⟩⟩
    | panic ch => exact hp.elim
    | outgrown => exact hp.elim
  · rintro e Z ⟨⟨v, rfl⟩, hk, (⟨hi, hl⟩ | ⟨pre, hpx, c, hi, hl⟩)⟩
    · have hend := run_endLoop (P := P) hl (by rw [hrc]; simp)
      have hk2 := back (hk.trans (KeepX.put Z (.inl (.inr rfl)) (.loop { rc .ready none with state := .exhausted })))
      refine ⟨none, _, ?_, hdone _ hk2.1 (hI _ _ _ hi fun k hy => World.putObj_heap_other (by have := (hY k hy).1; omega)) hk2.2⟩
      rw [hend, hrc]
    · have hend := run_endLoop (P := P) hl (by rw [hrc]; simp)
      have hk2 := back (hk.trans (KeepX.put Z (.inl (.inr rfl)) (.loop { rc .done (some c) with state := .exhausted })))
      refine ⟨some c, _, ?_, hstop c pre _ hk2.1 hpx (hIx _ _ _ _ hi fun k hy => World.putObj_heap_other (by have := (hY k hy).1; omega)) hk2.2⟩
      rw [hend, hrc]
end
end Go.Proofs.YtjffpcjbbehooaaDoor.G
