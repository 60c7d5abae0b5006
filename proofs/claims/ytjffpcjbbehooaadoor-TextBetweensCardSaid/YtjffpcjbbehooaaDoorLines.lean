/-
  text.lines: an iterator over the lines of a text, each with where it begins: its contract.
-/
import Derived.Test.YtjffpcjbbehooaaDoorSplit
set_option linter.unusedVariables false
namespace Go.Proofs.YtjffpcjbbehooaaDoor.G
open Go.RowKit Go.Lib Go.Proofs.YtjffpcjbbehooaaDoorW.PrintWords
attribute [local go_sem] Oper.semAt_some
/-- The world behind strings.SplitSeq. -/
def splitWorld (w : World) (s sep : ByteArray) : World := ((w.alloc (.cells #[.string s] 9)).alloc (.cells #[.string sep] 9)).alloc (.cells #[.int .i64 0] 3)
def splitFn (w : World) : Value := .func (.func 66) #[] #[.pointer (some ⟨w.heap.size + 1, 0, none⟩), .pointer (some ⟨w.heap.size, 0, none⟩), .pointer (some ⟨w.heap.size + 2, 0, none⟩)]
theorem splitSeq_calls (s sep : ByteArray) (w : World) : Calls Tryd.prog 58 #[.string s, .string sep, .int .i64 0] w fun e w' => e = .returned (splitFn w) ∧ w' = splitWorld w s sep := by
  go_enter Tryd.func58, Tryd.ntmps58
  go_wp2
  go_ret
  exact ⟨by simp [splitFn], rfl⟩
theorem SplitSeq_calls (s sep : ByteArray) (w : World) : Calls Tryd.prog 46 #[.string s, .string sep] w fun e w' => e = .returned (splitFn w) ∧ w' = splitWorld w s sep := by
  go_enter Tryd.func46, Tryd.ntmps46
  go_wp2_with (go_at_call 58; refine (splitSeq_calls _ _ _).mono ?_; rintro e w' ⟨rfl, rfl⟩)
  go_ret
  exact ⟨rfl, rfl⟩
theorem lines_calls (s : ByteArray) (w : World) : Calls Tryd.prog 29 #[.string s] w fun e w' => e = .returned (.func (.func 45) #[] #[.pointer (some ⟨w.heap.size, 0, none⟩)]) ∧ w' = w.alloc (.cells #[.string s] 9) := by
  go_enter Tryd.func29, Tryd.ntmps29
  go_wp2
  go_ret
  exact ⟨rfl, rfl⟩
theorem splitWorld_boxes (w : World) (s sep : ByteArray) : Boxed (splitWorld w s sep) w.heap.size 9 (.string s) ∧ Boxed (splitWorld w s sep) (w.heap.size + 1) 9 (.string sep) ∧ Boxed (splitWorld w s sep) (w.heap.size + 2) 3 (.int .i64 0) := by
  have h1 := Boxed.new w 9 (.string s)
  have h2 := Boxed.new (w.alloc (.cells #[.string s] 9)) 9 (.string sep)
  have h3 := Boxed.new ((w.alloc (.cells #[.string s] 9)).alloc (.cells #[.string sep] 9)) 3 (.int .i64 0)
  simp only [World.size_alloc] at h2 h3
  exact ⟨(h1.alloc _).alloc _, h2.alloc _, h3⟩
theorem splitWorld_below (w : World) (s sep : ByteArray) : Below w.heap.size w (splitWorld w s sep) := below_alloc (below_alloc (below_alloc (Below.refl _ w) _) _) _
theorem splitWorld_size (w : World) (s sep : ByteArray) : (splitWorld w s sep).heap.size = w.heap.size + 3 := by simp [splitWorld]
def span (xs : List ByteArray) : Nat := (xs.map fun x => x.size + 1).sum
theorem span_append (xs ys : List ByteArray) : span (xs ++ ys) = span xs + span ys := by simp [span]
theorem span_one (x : ByteArray) : span [x] = x.size + 1 := by simp [span]
theorem span_le {xs ys : List ByteArray} (h : xs <+: ys) : span xs ≤ span ys := by
  obtain ⟨t, rfl⟩ := h
  rw [span_append]
  omega
theorem linesAt_snoc (pre : List ByteArray) (x : ByteArray) : linesAt 0 (pre ++ [x]) = linesAt 0 pre ++ [(span pre, x)] := by
  rw [linesAt_append]
  simp [linesAt, span]
theorem linesAt_prefix {xs ys : List ByteArray} (h : xs <+: ys) : linesAt 0 xs <+: linesAt 0 ys := by
  obtain ⟨t, rfl⟩ := h
  rw [linesAt_append]
  exact ⟨_, rfl⟩
theorem round_wide {P : Program} {m m' l l2 : Nat} {f : FuncId} {tmps : Array Value} {assign body : Code} {w : World} {R : Ending → World → Prop} (h : RoundIn Fence.wide m P l f tmps assign body w R) : RoundIn (Fence.wide.inRound l2) m' P l f tmps assign body w R :=
  ⟨trivial, fun c cs _ => h.2 c cs (fun d hd => by cases hd)⟩
abbrev encL (p : Nat × ByteArray) : Array Value := #[.int .i64 (p.1 : Int), .string p.2]
set_option maxHeartbeats 4000000 in
set_option maxRecDepth 100000 in
theorem lines_iter (n : Nat) (hn : 2 ≤ n) (s : ByteArray) (Bn : Nat) (w : World) (hsz : s.size ≤ 281474976710656) (hs : Boxed w Bn 9 (.string s)) :
    IterX n Tryd.prog 45 #[.pointer (some ⟨Bn, 0, none⟩)] encL (fun k => k = Bn) (linesAt 0 (splitB s)) w := fun l X J Jx W hW hX hJ hJx hY h0 => by
  have hs0 : Boxed W Bn 9 (.string s) := (hW.block Bn hs.lt).trans hs
  have xs : ¬ X Bn := fun h => (hX _ h).2 rfl
  have c1 := ((hs0.alloc (.cells #[.func (.yield l) #[] #[]] 71)).alloc (.cells #[.int .i64 0] 3)).cell
  refine callsIn_of_wp_marks Tryd.func45 rfl trivial ?_ rfl
  simp only [Tryd.ntmps45, List.size_toArray, List.length_cons, List.length_nil, Nat.reduceAdd, Nat.reduceSub, Array.replicate_succ, Array.replicate_zero, List.push_toArray, List.append_toArray, List.nil_append, List.cons_append]
  have HY := Aside0.mk hY
  have HJ := Aside0.mk hJ
  have HJx := Aside0.mk hJx
  have H0 := Aside0.mk h0
  have HX := Aside0.mk xs
  have HXB := Aside0.mk hX
  have HZ := Aside0.mk hsz
  have HS0 := Aside0.mk hs0
  clear hY hJ hJx h0 xs hX hsz hs0 hW hs
  gi_wp2_with (refine ⟨trivial, (fun h => by cases h), ?_⟩; refine (callsIn_wide.2 (SplitSeq_calls _ _ _)).mono ?_; rintro e w' ⟨rfl, rfl⟩)
  obtain ⟨W1, hW1⟩ : ∃ W1, (W.alloc (.cells #[.func (.yield l) #[] #[]] 71)).alloc (.cells #[.int .i64 0] 3) = W1 := ⟨_, rfl⟩
  have z1 : W1.heap.size = W.heap.size + 2 := by rw [← hW1]; simp
  have y1 : Boxed W1 W.heap.size 71 (.func (.yield l) #[] #[]) := by rw [← hW1]; exact (Boxed.new W _ _).alloc _
  have a1 : Boxed W1 (W.heap.size + 1) 3 (.int .i64 0) := by
    have := Boxed.new (W.alloc (.cells #[.func (.yield l) #[] #[]] 71)) 3 (.int .i64 0)
    rw [World.size_alloc, hW1] at this
    exact this
  have b1 : Below W.heap.size W W1 := by rw [← hW1]; exact below_alloc (below_alloc (Below.refl _ W) _) _
  rw [hW1]
  clear hW1 c1
  obtain ⟨V, hV⟩ : ∃ V, splitWorld W1 s ⟨#[10]⟩ = V := ⟨_, rfl⟩
  obtain ⟨hbs, hbp, hbv⟩ := splitWorld_boxes W1 s ⟨#[10]⟩
  have hVb := splitWorld_below W1 s ⟨#[10]⟩
  have hVz := splitWorld_size W1 s ⟨#[10]⟩
  rw [hV] at hbs hbp hbv hVb hVz ⊢
  clear hV
  have vb : Below W.heap.size W V := b1.trans (hVb.mono b1.size)
  have vy : Boxed V W.heap.size 71 (.func (.yield l) #[] #[]) := (hVb.block _ (by omega)).trans y1
  have va : Boxed V (W.heap.size + 1) 3 (.int .i64 0) := (hVb.block _ (by omega)).trans a1
  have HU := Aside0.mk (fun xs => span_le (xs := xs) (ys := splitB s))
  have hsp : span (splitB s) = s.size + 1 := splitB_sum s
  have VY := Aside0.mk vy
  have VB := Aside0.mk vb
  have UP := Aside0.mk (fun (Z : World) (hk : KeepX (fun k => (X k ∨ k = W.heap.size + 1) ∨ (k = W1.heap.size ∨ k = W1.heap.size + 1 ∨ k = W1.heap.size + 2)) V Z) => (show KeepX (fun k => X k ∨ k = Bn) W Z from
    ⟨hk.os.trans vb.os, hk.tape.trans vb.tape, hk.output.trans vb.output, Nat.le_trans vb.size hk.size, fun k hk1 hx => (hk.block k (Nat.lt_of_lt_of_le hk1 vb.size) (by
      rintro ((h | h) | (h | h | h))
      · exact hx (.inl h)
      · omega
      · omega
      · omega
      · omega)).trans (vb.block k hk1)⟩))
  have PUT := Aside0.mk (fun (Z : World) (o : Obj) (hk : KeepX (fun k => X k ∨ k = Bn) W Z) => (show KeepX (fun k => X k ∨ k = Bn) W (Z.putObj V.heap.size o) from
    ⟨hk.os, hk.tape, hk.output, Nat.le_trans hk.size (by simp [World.putObj]), fun k hk1 hx => (World.putObj_heap_other (by have := vb.size; omega)).trans (hk.block k hk1 hx)⟩))
  have PUX := Aside0.mk (fun (Z : World) (o : Obj) (k : Nat) (hx : X k) => (show (Z.putObj V.heap.size o).heap[k]? = Z.heap[k]? from World.putObj_heap_other (by have := (HXB.out k hx).1; have := vb.size; omega)))
  refine wpIn_rangeX (n := n) (by omega) (gf := 66) (lb := #[.pointer (some ⟨W1.heap.size + 1, 0, none⟩), .pointer (some ⟨W1.heap.size, 0, none⟩), .pointer (some ⟨W1.heap.size + 2, 0, none⟩)]) rfl (enters_of Tryd.func66 (by kernel_rfl) rfl)
    (split_iter (n - 1) s W1.heap.size (W1.heap.size + 1) (W1.heap.size + 2) V HZ.out (by omega) (by omega) hbs hbp hbv) (Below.refl _ _) (fun _ => rfl)
    (fun k hk => by rcases hk with rfl | rfl | rfl <;> omega) (fun k => X k ∨ k = W.heap.size + 1)
    (fun k hk => by
      rcases hk with hx | rfl
      · have := (HXB.out k hx).1
        exact ⟨by omega, by omega⟩
      · exact ⟨by omega, by omega⟩)
    (fun pre Z => J (linesAt 0 pre) Z ∧ Boxed Z (W.heap.size + 1) 3 (.int .i64 (span pre : Nat)))
    (fun c pre Z => c = .ret ∧ Jx (linesAt 0 pre) Z)
    (fun pre A B h hk => ⟨HJ.out _ _ _ h.1 fun k hx => hk k (.inl hx), (hk _ (.inr rfl)).trans h.2⟩)
    (fun c pre A B h hk => ⟨h.1, HJx.out _ _ _ h.2 fun k hx => hk k (.inl hx)⟩)
    ⟨HJ.out _ _ _ H0.out fun k hx => vb.block k (HXB.out k hx).1, va⟩
    (fun x => { tmps := #[.func (.yield l) #[] #[], .pointer (some ⟨Bn, 0, none⟩), .pointer (some ⟨W.heap.size, 0, none⟩), .pointer (some ⟨W.heap.size + 1, 0, none⟩), .string x, .string s, splitFn W1, .string x, undef, undef, undef, undef, undef, undef, undef, undef, undef, undef], defers := [] }) ?assign ?body ?done ?stop
  case assign =>
    intro l x Z K hK
    gi_wp2
    exact hK
  case body =>
    rintro l2 pre x Z hl2 hr2 hk ⟨hj, hat⟩ hpx
    have hb := (show Boxed Z W.heap.size _ _ from (hk.block _ (by omega) (by
      rintro ((hx | he) | (he | he | he))
      · have := (HXB.out _ hx).1; omega
      · omega
      · omega
      · omega
      · omega)).trans VY.out)
    have hc1 := hb.cell
    have hc2 := hat.cell
    have hkW := UP.out Z hk
    obtain ⟨fn, tmps, assign, body, hy, hR⟩ := HY.out (linesAt 0 pre) (span pre, x) Z hj hkW (by rw [← linesAt_snoc]; exact linesAt_prefix hpx)
    dsimp only [encL] at hy
    have HR := Aside0.mk hR
    have hle := HU.out _ hpx
    rw [span_append, span_one, hsp] at hle
    have HL := Aside0.mk hle
    have hw1 : wrap64 ((x.size : Int) + 1) = (x.size : Int) + 1 := by unfold wrap64; have := HZ.out; omega
    have hw2 : wrap64 ((span pre : Int) + ((x.size : Int) + 1)) = ((span (pre ++ [x]) : Nat) : Int) := by rw [span_append, span_one]; unfold wrap64; have := HZ.out; omega
    have HAT := Aside0.mk hat
    clear hR hle hj hkW hk hpx
    gi_wp2
    refine ⟨(fun h => by cases h), (round_wide HR.out).mono ?_⟩
    rintro e Z3 ⟨hk3, (⟨rfl, hJ3⟩ | ⟨rfl, hJx3⟩)⟩
    · have hat3 : Boxed Z3 (W.heap.size + 1) 3 (.int .i64 (span pre : Nat)) := Boxed.keep HAT.out hk3 (fun hx => by have := (HXB.out _ hx).1; omega)
      have hd2 := hat3.cell
      have hf2 := hat3.frozen
      have HK3 := Aside0.mk hk3
      have HJ3 := Aside0.mk hJ3
      have HAT3 := Aside0.mk hat3
      clear hc1 hc2 hJ3 hk3 hat3 hy
      gi_wp2
      refine ⟨(HK3.out.mono fun k _ h => .inl h).trans (KeepX.setCell Z3 (.inr rfl) _), ?_, Boxed.set _ HAT3.out⟩
      rw [linesAt_snoc]
      exact HJ.out _ _ _ HJ3.out fun k hx => (KeepX.setCell (X := fun k => k = W.heap.size + 1) Z3 rfl _).block k (by have := (HXB.out k hx).1; have := Boxed.lt HAT3.out; omega) (by have := (HXB.out k hx).1; omega)
    · gi_wp2
      exact ⟨hk3.mono fun k _ h => .inl h, rfl, by rw [linesAt_snoc]; exact hJx3⟩
  case done =>
    rintro Z hk ⟨hj, hat⟩ hD
    gi_wp2
    refine ⟨by simp, .inl ⟨_, _, rfl, run_takeDeferred hD, ?_⟩⟩
    exact ⟨_, results_none rfl _ _ _, ⟨_, rfl⟩, PUT.out _ _ (UP.out Z hk), .inl (HJ.out _ _ _ hj (PUX.out _ _))⟩
  case stop =>
    rintro c pre Z hk hpx ⟨rfl, hjx⟩ hD
    gi_wp2
    refine ⟨by simp, .inl ⟨_, _, rfl, run_takeDeferred hD, ?_⟩⟩
    exact ⟨_, results_none rfl _ _ _, ⟨_, rfl⟩, PUT.out _ _ (UP.out Z hk), .inr ⟨_, linesAt_prefix hpx, HJx.out _ _ _ hjx (PUX.out _ _)⟩⟩
end Go.Proofs.YtjffpcjbbehooaaDoor.G
