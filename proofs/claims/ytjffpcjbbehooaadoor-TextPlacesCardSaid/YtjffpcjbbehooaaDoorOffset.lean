/-
  utf.Offset and utf.Unit: their contracts, in the printer's words.
-/
import Derived.Test.YtjffpcjbbehooaaDoorPlaces
set_option linter.unusedVariables false
namespace Go.Proofs.YtjffpcjbbehooaaDoor.G
open Go.RowKit Go.Lib Go.Proofs.YtjffpcjbbehooaaDoorW.PrintWords
attribute [local go_sem] Oper.semAt_some
theorem KpP.trans {Bn : Nat} {A B C : World} (h : KpP Bn A B) (k : KpP Bn B C) : KpP Bn A C := ⟨h.1.trans k.1, fun v hv => k.2 v (h.2 v hv)⟩
theorem KpP.refl (Bn : Nat) (A : World) : KpP Bn A A := ⟨KeepsWalks.refl _, fun _ h => h⟩
theorem KpP.book {Bn : Nat} {w : World} (hB : Bn < w.heap.size) (W : World) (l : Nat) (o o' : Obj) (hl : w.heap.size ≤ l) (h : W.heap[l]? = some o) (_ : o.isCells = false) (hw : o.isWalk = false) : KpP Bn W (W.putObj l o') :=
  ⟨KeepsWalks.putObj _ h hw, fun v hv => by rw [← hv]; exact World.cell?_of_block (World.putObj_heap_other (by show Bn ≠ l; omega))⟩

/-- The place at which a unit is told, and its byte. -/
def offsetOf (l : List UInt8) (x : Int) : Int × Int := match (places l).find? (fun p => (p.2 : Int) == x) with
  | some p => (p.1, 0)
  | none => (0, 70)
set_option maxHeartbeats 4000000 in
set_option maxRecDepth 100000 in
theorem GOffset.valid (a0 : ByteArray) (a1 : Int) (w : World) (hT : T8 w) (hs : a0.size ≤ 17592186044416) (hv : Lib.validD a0.data.toList = true) :
    Calls Tryd.prog 30 #[.string a0, .int .i64 a1] w fun e w' => e = .returned (.tuple #[.int .i64 (offsetOf a0.data.toList a1).1, .int .i64 (offsetOf a0.data.toList a1).2]) ∧ Below w.heap.size w w' := by
  have HV := Aside0.mk (fun (W : World) (hb : Below w.heap.size w W) => GValidString.calls a0 true W (T8_below hT hb) (by unfold GValidString.f; rw [if_pos (by omega), hv]))
  have Hs := Aside0.mk hs
  clear hT hv hs
  refine (callsIn_wide (n := 4)).1 ?_
  refine callsIn_of_wp_marks Tryd.func30 rfl trivial ?_ rfl
  simp only [Tryd.ntmps30, List.size_toArray, List.length_cons, List.length_nil, Nat.reduceAdd, Nat.reduceSub, Array.replicate_succ, Array.replicate_zero, List.push_toArray, List.append_toArray, List.nil_append, List.cons_append]
  gi_wp2_with (first | (refine ⟨trivial, ?_⟩; gi_at_call 25; refine (callsIn_wide.2 (HV.out _ (by repeat (first | exact Below.refl _ _ | apply below_alloc)))).mono ?_; rintro e w1 ⟨rfl, hb⟩; have HB := Aside0.mk hb; clear hb) | (refine ⟨trivial, ?_⟩; gi_at_call 47; refine (callsIn_wide.2 (places_calls a0 _)).mono ?_; rintro e w2 ⟨rfl, rfl⟩))
  have c3 := cell_new_l w (.int .i64 a1) 3
  have c4 := cell_new_l (w.alloc (.cells #[.int .i64 a1] 3)) (.int .i64 0) 3
  have c5 := cell_new_l ((w.alloc (.cells #[.int .i64 a1] 3)).alloc (.cells #[.int .i64 0] 3)) (.int .i64 0) 26
  simp only [World.size_alloc] at c4 c5
  have cB := cell_new_l w1 (.string a0) 9
  have A3 := cell_alloc_l (o := .cells #[.int .i64 0] 26) (cell_alloc_l (o := .cells #[.int .i64 0] 3) c3.1)
  have A4 := cell_alloc_l (o := .cells #[.int .i64 0] 26) c4.1
  have F4 := frozen_alloc_l (o := .cells #[.int .i64 0] 26) c4.1 c4.2
  have A5 := c5.1
  have F5 := c5.2
  have D3 := cell_alloc_l (o := .cells #[.string a0] 9) ((HB.out.cell (World.block_lt_of_cell? _ _ A3)).trans A3)
  have D4 := cell_alloc_l (o := .cells #[.string a0] 9) ((HB.out.cell (World.block_lt_of_cell? _ _ A4)).trans A4)
  have E4 := frozen_alloc_l (o := .cells #[.string a0] 9) ((HB.out.cell (World.block_lt_of_cell? _ _ A4)).trans A4) ((HB.out.frozen (World.block_lt_of_cell? _ _ A4)).trans F4)
  have D5 := cell_alloc_l (o := .cells #[.string a0] 9) ((HB.out.cell (World.block_lt_of_cell? _ _ A5)).trans A5)
  have E5 := frozen_alloc_l (o := .cells #[.string a0] 9) ((HB.out.cell (World.block_lt_of_cell? _ _ A5)).trans A5) ((HB.out.frozen (World.block_lt_of_cell? _ _ A5)).trans F5)
  have hB1 : Below w.heap.size w (w1.alloc (.cells #[.string a0] 9)) := below_alloc (below_step (below_alloc (below_alloc (below_alloc (Below.refl _ w) _) _) _) HB.out) _
  have hsz : w.heap.size + 1 + 1 < w1.heap.size := by have := HB.out.size; simp at this; omega
  clear c3 c4 c5 A3 A4 F4 A5 F5
  refine wpIn_rangeFunc_ownF rfl (by omega) (gf := 59) (lb := #[.pointer (some ⟨w1.heap.size, 0, none⟩)]) rfl trivial (enters_of Tryd.func59 (by kernel_rfl) rfl)
    (places_stops (4 - 1) (by omega) a0 Hs.out w1.heap.size (w1.alloc (.cells #[.string a0] 9)) cB.1) KpP.trans (KpP.book (by simp)) (Below.refl _ _) (fun _ => rfl)
    (fun pre W => (pre.find? (fun p => (p.2 : Int) == a1) = none ∧ W.cell? ⟨w.heap.size, 0, none⟩ = some (.int .i64 a1) ∧ W.cell? ⟨w.heap.size + 1, 0, none⟩ = some (.int .i64 0) ∧ W.frozen? ⟨w.heap.size + 1, 0, none⟩ = false ∧ W.cell? ⟨w.heap.size + 1 + 1, 0, none⟩ = some (.int .i64 0) ∧ W.frozen? ⟨w.heap.size + 1 + 1, 0, none⟩ = false) ∧ Below w.heap.size w W)
    (fun c pre W => (c = .ret ∧ ∃ p, pre.find? (fun p => (p.2 : Int) == a1) = some p ∧ W.cell? ⟨w.heap.size + 1, 0, none⟩ = some (.int .i64 (p.1 : Int)) ∧ W.cell? ⟨w.heap.size + 1 + 1, 0, none⟩ = some (.int .i64 0)) ∧ Below w.heap.size w W)
    (OwnFrom.and (Own.from (fun s A B row hs hg hr => ⟨hs.1, cell_kept hs.2.1 hg hr, cell_kept hs.2.2.1 hg hr, (frozen_kept hs.2.2.1 hg hr).trans hs.2.2.2.1, cell_kept hs.2.2.2.2.1 hg hr, (frozen_kept hs.2.2.2.2.1 hg hr).trans hs.2.2.2.2.2⟩) _) (ownFrom_below (Nat.le_refl _) (by simp; omega)))
    (fun c => OwnFrom.and (Own.from (fun s A B row hs hg hr => by obtain ⟨h1, p, h2, h3, h4⟩ := hs; exact ⟨h1, p, h2, cell_kept h3 hg hr, cell_kept h4 hg hr⟩) _) (ownFrom_below (Nat.le_refl _) (by simp; omega)))
    ⟨⟨rfl, D3, D4, E4, D5, E5⟩, hB1⟩
    (fun x => { tmps := #[.string a0, .int .i64 a1, undef, .pointer (some ⟨w.heap.size, 0, none⟩), .pointer (some ⟨w.heap.size + 1, 0, none⟩), .pointer (some ⟨w.heap.size + 1 + 1, 0, none⟩), .int .i64 x.1, .int .i64 x.2, .string a0, .bool true, .bool false, .string a0, .func (.func 59) #[] #[.pointer (some ⟨w1.heap.size, 0, none⟩)], .int .i64 x.1, .int .i64 x.2, undef, undef, undef, undef], defers := [] }) ?assign ?body ?done ?stop
  case assign =>
    intro l x W K hK
    gi_wp2
    exact hK
  case body =>
    rintro l pre x W ⟨⟨hp, hc3, hc4, hf4, hc5, hf5⟩, hB⟩ _
    have HP := Aside0.mk hp
    clear hp
    cases hx : ((x.2 : Int) == a1) with
    | true =>
      have HF := Aside0.mk (show (pre ++ [x]).find? (fun p => (p.2 : Int) == a1) = some x by rw [List.find?_append, HP.out]; simp [hx])
      gi_wp2
      have h2c := two_cells (.int .i64 (x.1 : Int)) (.int .i64 0) (show w.heap.size + 1 ≠ w.heap.size + 1 + 1 by omega) hc4 hc5
      exact ⟨(KeepsOthers.setCell _ _ _).trans (KeepsOthers.setCell _ _ _), ⟨rfl, x, HF.out, h2c.1, h2c.2⟩, (hB.setCell (p := ⟨w.heap.size + 1, 0, none⟩) (by simp) _).setCell (p := ⟨w.heap.size + 1 + 1, 0, none⟩) (by simp; omega) _⟩
    | false =>
      have HF := Aside0.mk (show (pre ++ [x]).find? (fun p => (p.2 : Int) == a1) = none by rw [List.find?_append, HP.out]; simp [hx])
      gi_wp2
      exact ⟨KeepsOthers.refl _, KpP.refl _ _, ⟨HF.out, hc3, hc4, hf4, hc5, hf5⟩, hB⟩
  case done =>
    rintro D ys W hD rfl ⟨⟨hp, hc3, hc4, hf4, hc5, hf5⟩, hB⟩ hK
    have HO := Aside0.mk (show offsetOf a0.data.toList a1 = (0, 70) by unfold offsetOf; rw [hp])
    clear hp
    gi_wp2
    have hK' := ((KeepsOthers.setCell W ⟨w.heap.size + 1, 0, none⟩ (.int .i64 0)).trans (KeepsOthers.setCell _ ⟨w.heap.size + 1 + 1, 0, none⟩ (.int .i64 70))).same D _ hK rfl
    refine ⟨by simp, .inl ⟨_, _, rfl, run_takeDeferred hK', ?_⟩⟩
    have h2c := two_cells (.int .i64 0) (.int .i64 70) (show w.heap.size + 1 ≠ w.heap.size + 1 + 1 by omega) hc4 hc5
    have g4 := cell_kept (show ((W.setCell ⟨w.heap.size + 1, 0, none⟩ (.int .i64 0)).setCell ⟨w.heap.size + 1 + 1, 0, none⟩ (.int .i64 70)).cell? ⟨w.heap.size + 1, 0, none⟩ = some (.int .i64 0) from h2c.1) (grownBy_putObj' _ D (.deferred none)) (fun r e => by cases e; exact ⟨_, hK', rfl⟩)
    have g5 := cell_kept (show ((W.setCell ⟨w.heap.size + 1, 0, none⟩ (.int .i64 0)).setCell ⟨w.heap.size + 1 + 1, 0, none⟩ (.int .i64 70)).cell? ⟨w.heap.size + 1 + 1, 0, none⟩ = some (.int .i64 70) from h2c.2) (grownBy_putObj' _ D (.deferred none)) (fun r e => by cases e; exact ⟨_, hK', rfl⟩)
    refine ⟨.tuple #[.int .i64 0, .int .i64 70], ?_, by rw [HO.out], ((hB.setCell (p := ⟨w.heap.size + 1, 0, none⟩) (by simp) _).setCell (p := ⟨w.heap.size + 1 + 1, 0, none⟩) (by simp; omega) _).trans (belowK_b (w := w) (Nat.le_refl _) _ D _ _ (by simp at hD; omega) hK' rfl rfl)⟩
    simp [results, Tryd.f30, go_sem, g4, g5]
  case stop =>
    rintro D c pre W hD hpre ⟨⟨rfl, p, hp, hc4, hc5⟩, hB⟩ hK
    have HO := Aside0.mk (show offsetOf a0.data.toList a1 = ((p.1 : Int), 0) by
      obtain ⟨t, ht⟩ := hpre
      unfold offsetOf
      rw [← ht, List.find?_append, hp]
      rfl)
    clear hp hpre
    gi_wp2
    refine ⟨by simp, .inl ⟨_, _, rfl, run_takeDeferred hK, ?_⟩⟩
    have g4 := cell_kept hc4 (grownBy_putObj' _ D (.deferred none)) (fun r e => by cases e; exact ⟨_, hK, rfl⟩)
    have g5 := cell_kept hc5 (grownBy_putObj' _ D (.deferred none)) (fun r e => by cases e; exact ⟨_, hK, rfl⟩)
    refine ⟨.tuple #[.int .i64 (p.1 : Int), .int .i64 0], ?_, by rw [HO.out], hB.trans (belowK_b (w := w) (Nat.le_refl _) W D _ _ (by simp at hD; omega) hK rfl rfl)⟩
    simp [results, Tryd.f30, go_sem, g4, g5]
set_option maxHeartbeats 4000000 in
set_option maxRecDepth 100000 in
theorem GOffset.invalid (a0 : ByteArray) (a1 : Int) (w : World) (hT : T8 w) (hs : a0.size ≤ 17592186044416) (hv : Lib.validD a0.data.toList = false) :
    Calls Tryd.prog 30 #[.string a0, .int .i64 a1] w fun e w' => e = .returned (.tuple #[.int .i64 0, .int .i64 40]) ∧ Below w.heap.size w w' := by
  have HV := Aside0.mk (fun (W : World) (hb : Below w.heap.size w W) => GValidString.calls a0 false W (T8_below hT hb) (by unfold GValidString.f; rw [if_pos (by omega), hv]))
  clear hT hv hs
  go_enter Tryd.func30, Tryd.ntmps30
  go_wp2_with (go_at_call 25; refine (HV.out _ (by repeat (first | exact Below.refl _ _ | apply below_alloc))).mono ?_; rintro e w1 ⟨rfl, hb⟩; have HB := Aside0.mk hb; clear hb; have c4 := cell_new_l (w.alloc (.cells #[.int .i64 a1] 3)) (.int .i64 0) 3; have c5 := cell_new_l ((w.alloc (.cells #[.int .i64 a1] 3)).alloc (.cells #[.int .i64 0] 3)) (.int .i64 0) 26; simp only [World.size_alloc] at c4 c5; have A4 := cell_alloc_l (o := .cells #[.int .i64 0] 26) c4.1; have F4 := frozen_alloc_l (o := .cells #[.int .i64 0] 26) c4.1 c4.2; have A5 := c5.1; have F5 := c5.2; have D4 := (HB.out.cell (World.block_lt_of_cell? _ _ A4)).trans A4; have E4 := (HB.out.frozen (World.block_lt_of_cell? _ _ A4)).trans F4; have D5 := (HB.out.cell (World.block_lt_of_cell? _ _ A5)).trans A5; have E5 := (HB.out.frozen (World.block_lt_of_cell? _ _ A5)).trans F5; have HB1 := Aside0.mk (below_step (below_alloc (below_alloc (below_alloc (Below.refl _ w) _) _) _) HB.out); clear c4 c5 A4 F4 A5 F5 HB)
  refine bodyPost_ret (v := .tuple #[.int .i64 0, .int .i64 40]) (by simp [results, Tryd.f30, go_sem, D4, D5]) rfl ⟨rfl, ?_⟩
  exact (HB1.out.setCell (p := ⟨w.heap.size + 1, 0, none⟩) (by simp) _).setCell (p := ⟨w.heap.size + 1 + 1, 0, none⟩) (by simp; omega) _
def GOffset.f (a0 : ByteArray) (a1 : Int) : Option (Int × Int) := if a0.size ≤ 17592186044416 then some (if Lib.validD a0.data.toList then offsetOf a0.data.toList a1 else (0, 40)) else none
theorem GOffset.calls (a0 : ByteArray) (a1 r1 r2 : Int) (w : World) (hT : T8 w) (h : GOffset.f a0 a1 = some (r1, r2)) :
    Calls Tryd.prog 30 #[.string a0, .int .i64 a1] w fun e w' => e = .returned (.tuple #[.int .i64 r1, .int .i64 r2]) ∧ Below w.heap.size w w' := by
  unfold GOffset.f at h
  split at h
  case isFalse => cases h
  case isTrue hs =>
    cases hv : Lib.validD a0.data.toList with
    | false =>
      rw [hv] at h
      simp only [Option.some.injEq, Bool.false_eq_true, if_false, Prod.mk.injEq] at h
      obtain ⟨rfl, rfl⟩ := h
      exact GOffset.invalid a0 a1 w hT hs hv
    | true =>
      rw [hv] at h
      simp only [Option.some.injEq, if_true] at h
      have := GOffset.valid a0 a1 w hT hs hv
      rw [h] at this
      exact this

end Go.Proofs.YtjffpcjbbehooaaDoor.G
