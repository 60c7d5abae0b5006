/-
  text.Offset: its contract, in the printer's words.
-/
import Derived.Test.YtjffpcjbbehooaaDoorLines
import Derived.Test.YtjffpcjbbehooaaDoorPlaces
set_option linter.unusedVariables false
namespace Go.Proofs.YtjffpcjbbehooaaDoor.G
open Go.RowKit Go.Lib Go.Proofs.YtjffpcjbbehooaaDoorW.PrintWords
attribute [local go_sem] Oper.semAt_some
/-- utf.Offset's answer. -/
def uOff (x : ByteArray) (c : Int) : Int × Int := if validD x.data.toList then offsetOf x.data.toList c else (0, 40)
/-- The place of a line's unit among these lines. -/
def lineOff (ls : List (Nat × ByteArray)) (line char : Int) : Int × Int :=
  if 0 ≤ line then (match ls[line.toNat]? with
    | some p => if (uOff p.2 char).2 = 0 then ((p.1 : Int) + (uOff p.2 char).1, 0) else (0, 70)
    | none => (0, 70)) else (0, 70)
theorem lineOff_at (ls pre : List (Nat × ByteArray)) (p : Nat × ByteArray) (h : pre ++ [p] <+: ls) (char : Int) : lineOff ls (pre.length : Nat) char = if (uOff p.2 char).2 = 0 then ((p.1 : Int) + (uOff p.2 char).1, 0) else (0, 70) := by
  obtain ⟨t, rfl⟩ := h
  unfold lineOff
  rw [if_pos (by omega), Int.toNat_natCast, List.append_assoc, List.getElem?_append_right (Nat.le_refl _)]
  simp
theorem lineOff_none (ls : List (Nat × ByteArray)) (line char : Int) (h : ¬ (0 ≤ line ∧ line < ls.length)) : lineOff ls line char = (0, 70) := by
  unfold lineOff
  split
  · rw [List.getElem?_eq_none (by omega)]
  · rfl
theorem linesAt_length : ∀ (xs : List ByteArray) (a : Nat), (linesAt a xs).length = xs.length
  | [], _ => rfl
  | x :: xs, a => by simp [linesAt, linesAt_length xs]
theorem splitL_length : ∀ l : List UInt8, (splitL l).length ≤ l.length + 1
  | [] => by simp [splitL]
  | c :: l => by
    have := splitL_length l
    rw [splitL_cons]
    split
    · simp; omega
    · split <;> rename_i h <;> simp_all
      omega
theorem linesAt_bound : ∀ (xs : List ByteArray) (a : Nat) (p : Nat × ByteArray), p ∈ linesAt a xs → p.1 + p.2.size + 1 ≤ a + span xs
  | [], _, p, h => by simp [linesAt] at h
  | x :: xs, a, p, h => by
    simp only [linesAt, List.mem_cons] at h
    rcases h with rfl | h
    · simp [span]; omega
    · have := linesAt_bound xs _ p h
      have e : span (x :: xs) = x.size + 1 + span xs := by simp [span]
      omega
theorem placesGo_le : ∀ (n a u : Nat) (l : List UInt8) (p : Nat × Nat), p ∈ placesGo n a u l → p.1 ≤ a + l.length
  | 0, a, u, l, p, h => by
    simp [placesGo] at h
    subst h
    simp
  | n + 1, a, u, l, p, h => by
    unfold placesGo at h
    split at h
    · simp at h
      subst h
      simp
    · rename_i hne
      rcases List.mem_cons.1 h with rfl | h
      · simp
      · have := placesGo_le n _ _ _ p h
        have h2 := decodeL_le l hne
        rw [List.length_drop] at this
        omega
theorem offset_le (l : List UInt8) (c : Int) : (offsetOf l c).1 ≤ l.length := by
  unfold offsetOf
  split
  · rename_i p hp
    have := placesGo_le _ _ _ _ p (List.mem_of_find?_eq_some hp)
    simp only
    omega
  · simp only
    omega
theorem offset_range (l : List UInt8) (c : Int) : 0 ≤ (offsetOf l c).1 := by
  unfold offsetOf
  split
  · simp only; omega
  · simp
theorem calls_round {P : Program} {l n : Nat} {f : FuncId} {args : Array Value} {w : World} {R : Ending → World → Prop} (h : Calls P f args w R) : CallsIn (Fence.wide.inRound l) n P f args w R := (callsIn_wide (n := n)).2 h
set_option maxHeartbeats 4000000 in
set_option maxRecDepth 100000 in
theorem GTextOffset.valid (a0 : ByteArray) (a1 a2 : Int) (w : World) (hT : T8 w) (hs : a0.size ≤ 17592186044416) (hv : Lib.validD a0.data.toList = true) (hr : -9223372036854775808 ≤ a1 ∧ a1 ≤ 9223372036854775807) :
    Calls Tryd.prog 17 #[.string a0, .int .i64 a1, .int .i64 a2] w fun e w' => e = .returned (.tuple #[.int .i64 (lineOff (linesAt 0 (splitB a0)) a1 a2).1, .int .i64 (lineOff (linesAt 0 (splitB a0)) a1 a2).2]) ∧ Below w.heap.size w w' := by
  have HV := Aside0.mk (fun (W : World) (hb : Below w.heap.size w W) => GValidString.calls a0 true W (T8_below hT hb) (by unfold GValidString.f; rw [if_pos (by omega), hv]))
  have HT := Aside0.mk hT
  have Hs := Aside0.mk hs
  have Hr := Aside0.mk hr
  clear hT hv hs hr
  refine (callsIn_wide (n := 6)).1 ?_
  refine callsIn_of_wp_marks Tryd.func17 rfl trivial ?_ rfl
  simp only [Tryd.ntmps17, List.size_toArray, List.length_cons, List.length_nil, Nat.reduceAdd, Nat.reduceSub, Array.replicate_succ, Array.replicate_zero, List.push_toArray, List.append_toArray, List.nil_append, List.cons_append]
  gi_wp2_with (first | (refine ⟨trivial, ?_⟩; refine (callsIn_wide.2 (HV.out _ (by repeat (first | exact Below.refl _ _ | apply below_alloc)))).mono ?_; rintro e w1 ⟨rfl, hb⟩; have HB := Aside0.mk hb; clear hb) | (refine ⟨trivial, ?_⟩; refine (callsIn_wide.2 (lines_calls a0 _)).mono ?_; rintro e w2 ⟨rfl, rfl⟩))
  obtain ⟨w0, hw0⟩ : ∃ w0, (((w.alloc (.cells #[.int .i64 a1] 3)).alloc (.cells #[.int .i64 a2] 3)).alloc (.cells #[.int .i64 0] 3)).alloc (.cells #[.int .i64 0] 26) = w0 := ⟨_, rfl⟩
  have z0 : w0.heap.size = w.heap.size + 4 := by rw [← hw0]; simp
  have b0 : Below w.heap.size w w0 := by rw [← hw0]; exact below_alloc (below_alloc (below_alloc (below_alloc (Below.refl _ w) _) _) _) _
  have c4 : Boxed w0 w.heap.size 3 (.int .i64 a1) := by rw [← hw0]; exact (((Boxed.new w _ _).alloc _).alloc _).alloc _
  have c5 : Boxed w0 (w.heap.size + 1) 3 (.int .i64 a2) := by
    have := Boxed.new (w.alloc (.cells #[.int .i64 a1] 3)) 3 (.int .i64 a2)
    rw [World.size_alloc] at this
    rw [← hw0]
    exact (this.alloc _).alloc _
  have c6 : Boxed w0 (w.heap.size + 1 + 1) 3 (.int .i64 0) := by
    have := Boxed.new ((w.alloc (.cells #[.int .i64 a1] 3)).alloc (.cells #[.int .i64 a2] 3)) 3 (.int .i64 0)
    rw [World.size_alloc, World.size_alloc] at this
    rw [← hw0]
    exact this.alloc _
  have c7 : Boxed w0 (w.heap.size + 1 + 1 + 1) 26 (.int .i64 0) := by
    have := Boxed.new (((w.alloc (.cells #[.int .i64 a1] 3)).alloc (.cells #[.int .i64 a2] 3)).alloc (.cells #[.int .i64 0] 3)) 26 (.int .i64 0)
    rw [World.size_alloc, World.size_alloc, World.size_alloc] at this
    rw [← hw0]
    exact this
  rw [hw0] at HB
  clear hw0
  obtain ⟨V, hV⟩ : ∃ V, w1.alloc (.cells #[.string a0] 9) = V := ⟨_, rfl⟩
  have vn : Boxed V w1.heap.size 9 (.string a0) := by rw [← hV]; exact Boxed.new w1 _ _
  have vb0 : Below w0.heap.size w0 V := by rw [← hV]; exact below_alloc HB.out _
  have vz : V.heap.size = w1.heap.size + 1 := by rw [← hV]; simp
  have z1 : w0.heap.size ≤ w1.heap.size := HB.out.size
  have vb : Below w.heap.size w V := b0.trans (vb0.mono b0.size)
  have v4 := (vb0.block _ (by omega)).trans c4
  have v5 : Boxed V (w.heap.size + 1) 3 (.int .i64 a2) := (vb0.block _ (by omega)).trans c5
  have v6 := (vb0.block _ (by omega)).trans c6
  have v7 := (vb0.block _ (by omega)).trans c7
  rw [hV]
  clear hV c4 c5 c6 c7 HB b0 vb0
  have V5 := Aside0.mk v5
  have VB := Aside0.mk vb
  have HL := Aside0.mk (linesAt_bound (splitB a0) 0)
  have hsp : span (splitB a0) = a0.size + 1 := splitB_sum a0
  have hll : (linesAt 0 (splitB a0)).length ≤ a0.size + 1 := by
    rw [linesAt_length]
    have := splitL_length a0.data.toList
    have h2 : a0.data.toList.length = a0.size := Array.length_toList
    unfold splitB
    rw [List.length_map]
    omega
  rw [hsp] at HL
  clear hsp v5
  generalize hLS : linesAt 0 (splitB a0) = LS at *
  have UP := Aside0.mk (fun (Z : World) (hk : KeepX (fun k => (k = w.heap.size ∨ k = w.heap.size + 1 + 1 ∨ k = w.heap.size + 1 + 1 + 1) ∨ k = w1.heap.size) V Z) => (show Below w.heap.size w Z ∧ Boxed Z (w.heap.size + 1) 3 (.int .i64 a2) from
    ⟨⟨hk.os.trans vb.os, hk.tape.trans vb.tape, hk.output.trans vb.output, Nat.le_trans vb.size hk.size, fun k hk1 => (hk.block k (Nat.lt_of_lt_of_le hk1 vb.size) (by omega)).trans (vb.block k hk1)⟩,
     (hk.block _ (by omega) (by omega)).trans V5.out⟩))
  refine wpIn_rangeX (n := 6) (by omega) (gf := 45) (lb := #[.pointer (some ⟨w1.heap.size, 0, none⟩)]) rfl (enters_of Tryd.func45 (by kernel_rfl) rfl)
    (xs := LS) (encs := encL) (own := fun k => k = w1.heap.size) (hLS ▸ lines_iter (6 - 1) (by omega) a0 w1.heap.size V (by have := Hs.out; omega) vn) (Below.refl _ _) (fun _ => rfl)
    (fun k hk => by omega) (fun k => k = w.heap.size ∨ k = w.heap.size + 1 + 1 ∨ k = w.heap.size + 1 + 1 + 1)
    (fun k hk => by omega)
    (fun pre Z => Boxed Z w.heap.size 3 (.int .i64 (wrap64 (a1 - (pre.length : Nat)))) ∧ ¬ (0 ≤ a1 ∧ a1 < (pre.length : Nat)) ∧ Boxed Z (w.heap.size + 1 + 1) 3 (.int .i64 0) ∧ Boxed Z (w.heap.size + 1 + 1 + 1) 26 (.int .i64 0))
    (fun c pre Z => c = .ret ∧ Boxed Z (w.heap.size + 1 + 1) 3 (.int .i64 (lineOff LS a1 a2).1) ∧ Boxed Z (w.heap.size + 1 + 1 + 1) 26 (.int .i64 (lineOff LS a1 a2).2))
    (fun pre A B h hk => ⟨(hk _ (.inl rfl)).trans h.1, h.2.1, (hk _ (.inr (.inl rfl))).trans h.2.2.1, (hk _ (.inr (.inr rfl))).trans h.2.2.2⟩)
    (fun c pre A B h hk => ⟨h.1, (hk _ (.inr (.inl rfl))).trans h.2.1, (hk _ (.inr (.inr rfl))).trans h.2.2⟩)
    ⟨by
      have e : wrap64 (a1 - (([] : List (Nat × ByteArray)).length : Nat)) = a1 := by unfold wrap64; have := Hr.out; simp; omega
      rw [e]; exact v4, by rintro ⟨h1, h2⟩; simp at h2; omega, v6, v7⟩
    (fun x => { tmps := #[.string a0, .int .i64 a1, .int .i64 a2, undef, .pointer (some ⟨w.heap.size, 0, none⟩), .pointer (some ⟨w.heap.size + 1, 0, none⟩), .pointer (some ⟨w.heap.size + 1 + 1, 0, none⟩), .pointer (some ⟨w.heap.size + 1 + 1 + 1, 0, none⟩), .int .i64 (x.1 : Int), .string x.2, undef, undef, .string a0, .bool true, .bool false, .string a0, .func (.func 45) #[] #[.pointer (some ⟨w1.heap.size, 0, none⟩)], .int .i64 (x.1 : Int), .string x.2, undef, undef, undef, undef, undef, undef, undef, undef, undef, undef, undef, undef, undef, undef, undef], defers := [] }) ?assign ?body ?done ?stop
  case assign =>
    intro l x Z K hK
    gi_wp2
    exact hK
  case body =>
    rintro l pre x Z hl hr hk ⟨h4, hno, h6, h7⟩ hpx
    obtain ⟨hbz, h5⟩ := UP.out Z hk
    have hlen : pre.length < LS.length := by
      obtain ⟨t, rfl⟩ := hpx
      simp
    have hxb := HL.out x (by obtain ⟨t, rfl⟩ := hpx; simp)
    have e4 := h4.cell
    have e5 := h5.cell
    have g4 := h4.frozen
    have e6 := h6.cell
    have g6 := h6.frozen
    have e7 := h7.cell
    have g7 := h7.frozen
    have H4 := Aside0.mk h4
    have H6 := Aside0.mk h6
    have H7 := Aside0.mk h7
    by_cases hz : a1 = (pre.length : Nat)
    · have hw : wrap64 (a1 - (pre.length : Nat)) = 0 := by rw [hz]; unfold wrap64; omega
      have hLO := lineOff_at LS pre x hpx a2
      rw [← hz] at hLO
      have HLO := Aside0.mk hLO
      rw [hw] at e4 H4
      have hcall := GOffset.calls x.2 a2 (uOff x.2 a2).1 (uOff x.2 a2).2 Z (T8_below HT.out hbz) (if_pos (by have := Hs.out; omega))
      have HC := Aside0.mk hcall
      have hge : 0 ≤ (uOff x.2 a2).1 := by unfold uOff; split; exact offset_range _ _; simp
      clear hLO hcall h4 h5 h6 h7 hno hw hz
      have hr1 : (uOff x.2 a2).1 ≤ x.2.size := by
        unfold uOff
        split
        · have := offset_le x.2.data.toList a2
          have h2 : x.2.data.toList.length = x.2.size := Array.length_toList
          omega
        · simp
      generalize uOff x.2 a2 = r at *
      obtain ⟨r1, r2⟩ := r
      simp only at HLO HC hge hr1
      have hws : wrap64 ((x.1 : Int) + r1) = (x.1 : Int) + r1 := by unfold wrap64; have := Hs.out; omega
      have HW := Aside0.mk hws
      by_cases h0 : r2 = 0
      · subst h0
        rw [if_pos rfl] at HLO
        have H0 := Aside0.mk hk
        clear hk hbz hge hr1 hws hxb hlen
        gi_wp2_with (refine ⟨trivial, ?_⟩; refine (calls_round HC.out).mono ?_; rintro e Z2 ⟨rfl, hb2⟩; have y6 := (show Boxed Z2 (w.heap.size + 1 + 1) _ _ from (hb2.block _ H6.out.lt).trans H6.out); have y7 := (show Boxed Z2 (w.heap.size + 1 + 1 + 1) _ _ from (hb2.block _ H7.out.lt).trans H7.out); have i6 := y6.cell; have j6 := y6.frozen; have i7 := y7.cell; have j7 := y7.frozen; have Y6 := Aside0.mk y6; have Y7 := Aside0.mk y7; have HB2 := Aside0.mk hb2; clear y6 y7 hb2)
        refine ⟨(KeepX.of_below HB2.out).trans ((KeepX.setCell Z2 (.inr (.inl rfl)) _).trans (KeepX.setCell _ (.inr (.inr rfl)) _)), rfl, ?_, ?_⟩
        · rw [HLO.out]
          have h6 := Boxed.other (B' := w.heap.size + 1 + 1 + 1) (Boxed.set (.int .i64 (wrap64 ((x.1 : Int) + r1))) Y6.out) (by omega) (.int .i64 0)
          unfold Boxed at h6 ⊢
          rw [h6, HW.out]
        · rw [HLO.out]
          exact Boxed.set _ (Boxed.other Y7.out (by omega) _)
      · rw [if_neg h0] at HLO
        have H0 := Aside0.mk hk
        clear hk hbz hge hr1 hws hxb hlen
        gi_wp2_with (refine ⟨trivial, ?_⟩; refine (calls_round HC.out).mono ?_; rintro e Z2 ⟨rfl, hb2⟩; have y6 := (show Boxed Z2 (w.heap.size + 1 + 1) _ _ from (hb2.block _ H6.out.lt).trans H6.out); have y7 := (show Boxed Z2 (w.heap.size + 1 + 1 + 1) _ _ from (hb2.block _ H7.out.lt).trans H7.out); have i6 := y6.cell; have j6 := y6.frozen; have i7 := y7.cell; have j7 := y7.frozen; have Y6 := Aside0.mk y6; have Y7 := Aside0.mk y7; have HB2 := Aside0.mk hb2; clear y6 y7 hb2)
        refine ⟨(KeepX.of_below HB2.out).trans ((KeepX.setCell Z2 (.inr (.inl rfl)) _).trans (KeepX.setCell _ (.inr (.inr rfl)) _)), rfl, ?_, ?_⟩
        · rw [HLO.out]
          exact Boxed.other (Boxed.set _ Y6.out) (by omega) _
        · rw [HLO.out]
          exact Boxed.set _ (Boxed.other Y7.out (by omega) _)
    · have hw : ¬ wrap64 (a1 - (pre.length : Nat)) = 0 := by unfold wrap64; have := Hr.out; have := Hs.out; omega
      have hw2 : wrap64 (wrap64 (a1 - (pre.length : Nat)) - 1) = wrap64 (a1 - ((pre ++ [x]).length : Nat)) := by rw [List.length_append, List.length_singleton]; unfold wrap64; omega
      have HW2 := Aside0.mk hw2
      have HNO := Aside0.mk (show ¬ (0 ≤ a1 ∧ a1 < ((pre ++ [x]).length : Nat)) by rw [List.length_append, List.length_singleton]; omega)
      clear hk hbz hxb hlen h5 e5 hno hz hw2 h4 h6 h7
      generalize hq : wrap64 (a1 - (pre.length : Nat)) = q at *
      gi_wp2
      refine ⟨KeepX.setCell Z (.inl rfl) _, ?_, HNO.out, ?_, ?_⟩
      · rw [← HW2.out]
        exact Boxed.set _ H4.out
      · exact Boxed.other H6.out (by omega) _
      · exact Boxed.other H7.out (by omega) _
  case done =>
    rintro Z hk ⟨h4, hno, h6, h7⟩ hD
    obtain ⟨hbz, h5⟩ := UP.out Z hk
    have HO := Aside0.mk (show lineOff LS a1 a2 = (0, 70) from lineOff_none LS a1 a2 (by omega))
    have e6 := h6.cell
    have g6 := h6.frozen
    have e7 := h7.cell
    have g7 := h7.frozen
    have H6 := Aside0.mk h6
    have H7 := Aside0.mk h7
    have HD := Aside0.mk hD
    have HBZ := Aside0.mk hbz
    clear h4 h5 h6 h7 hno hk hD hbz
    gi_wp2
    have s1 := KeepX.setCell (X := fun k => k = w.heap.size + 1 + 1) Z (b := w.heap.size + 1 + 1) rfl (.int .i64 0)
    have s2 := KeepX.setCell (X := fun k => k = w.heap.size + 1 + 1 + 1) (Z.setCell ⟨w.heap.size + 1 + 1, 0, none⟩ (.int .i64 0)) (b := w.heap.size + 1 + 1 + 1) rfl (.int .i64 70)
    have hDl : V.heap.size < Z.heap.size := (Array.getElem?_eq_some_iff.1 HD.out).1
    have hD2 := (s2.block V.heap.size (Nat.lt_of_lt_of_le hDl s1.size) (by omega)).trans ((s1.block V.heap.size hDl (by omega)).trans HD.out)
    refine ⟨by simp, .inl ⟨_, _, rfl, run_takeDeferred hD2, ?_⟩⟩
    have k6 : Boxed (((Z.setCell ⟨w.heap.size + 1 + 1, 0, none⟩ (.int .i64 0)).setCell ⟨w.heap.size + 1 + 1 + 1, 0, none⟩ (.int .i64 70)).putObj V.heap.size (.deferred none)) (w.heap.size + 1 + 1) 3 (.int .i64 0) := (World.putObj_heap_other (by omega)).trans (Boxed.other (Boxed.set _ H6.out) (by omega) _)
    have k7 : Boxed (((Z.setCell ⟨w.heap.size + 1 + 1, 0, none⟩ (.int .i64 0)).setCell ⟨w.heap.size + 1 + 1 + 1, 0, none⟩ (.int .i64 70)).putObj V.heap.size (.deferred none)) (w.heap.size + 1 + 1 + 1) 26 (.int .i64 70) := (World.putObj_heap_other (by omega)).trans (Boxed.set _ (Boxed.other H7.out (by omega) _))
    have g6' := k6.cell
    have g7' := k7.cell
    refine ⟨.tuple #[.int .i64 0, .int .i64 70], ?_, by rw [hLS, HO.out], ?_⟩
    · simp [results, Tryd.f17, go_sem, g6', g7']
    · exact ((HBZ.out.setCell (p := ⟨w.heap.size + 1 + 1, 0, none⟩) (by simp; omega) _).setCell (p := ⟨w.heap.size + 1 + 1 + 1, 0, none⟩) (by simp; omega) _).trans (belowK_b (w := w) (Nat.le_refl _) _ V.heap.size _ _ (by have := VB.out.size; omega) hD2 rfl rfl)
  case stop =>
    rintro c pre Z hk hpx ⟨rfl, h6, h7⟩ hD
    obtain ⟨hbz, h5⟩ := UP.out Z hk
    clear h5 hk
    have HBZ := Aside0.mk hbz
    clear hbz
    gi_wp2
    refine ⟨by simp, .inl ⟨_, _, rfl, run_takeDeferred hD, ?_⟩⟩
    have k6 : Boxed (Z.putObj V.heap.size (.deferred none)) (w.heap.size + 1 + 1) 3 (.int .i64 (lineOff LS a1 a2).1) := (World.putObj_heap_other (by omega)).trans h6
    have k7 : Boxed (Z.putObj V.heap.size (.deferred none)) (w.heap.size + 1 + 1 + 1) 26 (.int .i64 (lineOff LS a1 a2).2) := (World.putObj_heap_other (by omega)).trans h7
    have g6' := k6.cell
    have g7' := k7.cell
    refine ⟨.tuple #[.int .i64 (lineOff LS a1 a2).1, .int .i64 (lineOff LS a1 a2).2], ?_, by rw [hLS], ?_⟩
    · simp [results, Tryd.f17, go_sem, g6', g7']
    · exact HBZ.out.trans (belowK_b (w := w) (Nat.le_refl _) _ V.heap.size _ _ (by have := VB.out.size; omega) hD rfl rfl)
set_option maxHeartbeats 4000000 in
set_option maxRecDepth 100000 in
theorem GTextOffset.invalid (a0 : ByteArray) (a1 a2 : Int) (w : World) (hT : T8 w) (hs : a0.size ≤ 17592186044416) (hv : Lib.validD a0.data.toList = false) :
    Calls Tryd.prog 17 #[.string a0, .int .i64 a1, .int .i64 a2] w fun e w' => e = .returned (.tuple #[.int .i64 0, .int .i64 40]) ∧ Below w.heap.size w w' := by
  have HV := Aside0.mk (fun (W : World) (hb : Below w.heap.size w W) => GValidString.calls a0 false W (T8_below hT hb) (by unfold GValidString.f; rw [if_pos (by omega), hv]))
  clear hT hv hs
  go_enter Tryd.func17, Tryd.ntmps17
  have c6 : Boxed ((((w.alloc (.cells #[.int .i64 a1] 3)).alloc (.cells #[.int .i64 a2] 3)).alloc (.cells #[.int .i64 0] 3)).alloc (.cells #[.int .i64 0] 26)) (w.heap.size + 1 + 1) 3 (.int .i64 0) := by
    have := Boxed.new ((w.alloc (.cells #[.int .i64 a1] 3)).alloc (.cells #[.int .i64 a2] 3)) 3 (.int .i64 0)
    rw [World.size_alloc, World.size_alloc] at this
    exact this.alloc _
  have c7 : Boxed ((((w.alloc (.cells #[.int .i64 a1] 3)).alloc (.cells #[.int .i64 a2] 3)).alloc (.cells #[.int .i64 0] 3)).alloc (.cells #[.int .i64 0] 26)) (w.heap.size + 1 + 1 + 1) 26 (.int .i64 0) := by
    have := Boxed.new (((w.alloc (.cells #[.int .i64 a1] 3)).alloc (.cells #[.int .i64 a2] 3)).alloc (.cells #[.int .i64 0] 3)) 26 (.int .i64 0)
    rw [World.size_alloc, World.size_alloc, World.size_alloc] at this
    exact this
  have C6 := Aside0.mk c6
  have C7 := Aside0.mk c7
  clear c6 c7
  go_wp2_with (go_at_call 25; refine (HV.out _ (by repeat (first | exact Below.refl _ _ | apply below_alloc))).mono ?_; rintro e w1 ⟨rfl, hb⟩; have y6 := (show Boxed w1 _ _ _ from (hb.block _ C6.out.lt).trans C6.out); have y7 := (show Boxed w1 _ _ _ from (hb.block _ C7.out.lt).trans C7.out); have i6 := y6.cell; have j6 := y6.frozen; have i7 := y7.cell; have j7 := y7.frozen; have Y6 := Aside0.mk y6; have Y7 := Aside0.mk y7; have HB := Aside0.mk (below_step (below_alloc (below_alloc (below_alloc (below_alloc (Below.refl _ w) _) _) _) _) hb); clear y6 y7 hb)
  have k6 : Boxed ((w1.setCell ⟨w.heap.size + 1 + 1, 0, none⟩ (.int .i64 0)).setCell ⟨w.heap.size + 1 + 1 + 1, 0, none⟩ (.int .i64 40)) (w.heap.size + 1 + 1) 3 (.int .i64 0) := Boxed.other (Boxed.set _ Y6.out) (by omega) _
  have k7 : Boxed ((w1.setCell ⟨w.heap.size + 1 + 1, 0, none⟩ (.int .i64 0)).setCell ⟨w.heap.size + 1 + 1 + 1, 0, none⟩ (.int .i64 40)) (w.heap.size + 1 + 1 + 1) 26 (.int .i64 40) := Boxed.set _ (Boxed.other Y7.out (by omega) _)
  have g6' := k6.cell
  have g7' := k7.cell
  refine bodyPost_ret (v := .tuple #[.int .i64 0, .int .i64 40]) (by simp [results, Tryd.f17, go_sem, g6', g7']) rfl ⟨rfl, ?_⟩
  exact (HB.out.setCell (p := ⟨w.heap.size + 1 + 1, 0, none⟩) (by simp; omega) _).setCell (p := ⟨w.heap.size + 1 + 1 + 1, 0, none⟩) (by simp; omega) _
def GTextOffset.f (a0 : ByteArray) (a1 a2 : Int) : Option (Int × Int) := if a0.size ≤ 17592186044416 ∧ -9223372036854775808 ≤ a1 ∧ a1 ≤ 9223372036854775807 then some (if Lib.validD a0.data.toList then lineOff (linesAt 0 (splitB a0)) a1 a2 else (0, 40)) else none
theorem GTextOffset.calls (a0 : ByteArray) (a1 a2 r1 r2 : Int) (w : World) (hT : T8 w) (h : GTextOffset.f a0 a1 a2 = some (r1, r2)) :
    Calls Tryd.prog 17 #[.string a0, .int .i64 a1, .int .i64 a2] w fun e w' => e = .returned (.tuple #[.int .i64 r1, .int .i64 r2]) ∧ Below w.heap.size w w' := by
  unfold GTextOffset.f at h
  split at h
  case isFalse => cases h
  case isTrue hs =>
    cases hv : Lib.validD a0.data.toList with
    | false =>
      rw [hv] at h
      simp only [Option.some.injEq, Bool.false_eq_true, if_false, Prod.mk.injEq] at h
      obtain ⟨rfl, rfl⟩ := h
      exact GTextOffset.invalid a0 a1 a2 w hT hs.1 hv
    | true =>
      rw [hv] at h
      simp only [Option.some.injEq, if_true] at h
      have := GTextOffset.valid a0 a1 a2 w hT hs.1 hv hs.2
      rw [h] at this
      exact this
end Go.Proofs.YtjffpcjbbehooaaDoor.G
