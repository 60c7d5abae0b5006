/-
  utf.Runes: a range over a text's runes, collected: its contract, in the printer's words.
  utf.Offset and utf.Unit: a range over the places of a text (an iterator over its runes): their contracts, in the printer's words.
  utf.Offset and utf.Unit: their contracts, in the printer's words.
-/
import Derived.Test.YtjffpcjbbehooaaDoorUtfBase
import Derived.Test.YtjffpcjbbehooaaDoorWWords
import Derived.Lib.OthersKept
import Derived.WalkSmall
import Derived.WalkKit
import Derived.Deep.LoopGhost
import Derived.RangeFuncFrom
import Derived.RangeFuncNested
import Derived.RangeFuncBound
import Derived.RangeFuncCalls
import Derived.RangeFuncLeaves
import Derived.OwnWalkIn
import Derived.TacticsInMore
import Derived.LoopNIn
import Derived.LoopIn
section
set_option linter.unusedVariables false
namespace Go.Proofs.YtjffpcjbbehooaaDoor.G
open Go.RowKit Go.Proofs.YtjffpcjbbehooaaDoorW.PrintWords Go.Lib
theorem info3 : (Tryd.prog.info? 3).map (fun i => (i.zero, i.size, i.bytes)) = some (some (.int .i64 0), 1, 8) := by kernel_rfl
def GRunes.f (a0 : ByteArray) : Option (List Int × Int) := if a0.size ≤ 17592186044416 then some (if Lib.validD a0.data.toList then (runes a0.data.toList, 0) else ([], 40)) else none
/-- What holds at each round's head: pos bytes have been read, rs are the runes that they told. -/
def RunesAt (w : World) (a0 : ByteArray) (k : Nat) (pos : Nat) (rs : List Int) (v : Value) (wr : World) : Prop :=
  wr.heap[k]? = some (.stringIter a0 pos) ∧ wr.ownsRow w.heap.size 3 1 v rs.length (nums .i64 rs) ∧ Below w.heap.size w wr ∧ w.heap.size ≤ k ∧ rs.length ≤ pos ∧ pos ≤ a0.size ∧ rs ++ runes (a0.data.toList.drop pos) = runes a0.data.toList
theorem RunesAt.apart {w : World} {a0 : ByteArray} {k pos : Nat} {rs : List Int} {v : Value} {wr : World} (h : RunesAt w a0 k pos rs v wr) : ∀ j, v.ownBlock = some j → j ≠ k := by
  rintro j e rfl
  obtain ⟨h1, h2, _⟩ := h
  rcases h2.2 with ⟨rfl, _⟩ | ⟨g, cap, cur, rfl, hg2, hh, _⟩
  · simp [Value.ownBlock] at e
  · simp [Value.ownBlock] at e
    subst e
    rw [h1] at hh
    cases hh
theorem RunesAt.step {w : World} {a0 : ByteArray} {k pos : Nat} {rs : List Int} {v : Value} {wr : World} (h : RunesAt w a0 k pos rs v wr) (hlt : pos < a0.size) {c n : Nat} (hd : Utf8.decode a0 pos = (c, n)) {o : Obj} {v1 : Value} {w1 : World}
    (hown : w1.ownsRow w.heap.size 3 1 v1 (rs.length + 1) (nums .i64 rs ++ [.int .i64 c])) (hg : ((wr.iterAt k a0 (pos + n)).alloc o).grownBy w1 v.ownBlock) : RunesAt w a0 k (pos + n) (rs ++ [(c : Int)]) v1 w1 := by
  obtain ⟨h1, h2, h3, h4, h5, h6, h7⟩ := h
  have hk : k < wr.heap.size := (Array.getElem?_eq_some_iff.1 h1).1
  have hne : a0.data.toList.drop pos ≠ [] := by
    intro e
    have := congrArg List.length e
    rw [List.length_drop, ← Lib.size_eq] at this
    simp at this
    omega
  have hdd : decodeL (a0.data.toList.drop pos) = (c, n) := by rw [← decode_drop]; exact hd
  have hle : n ≤ a0.size - pos := by
    have := decodeL_le _ hne
    rw [hdd, List.length_drop, ← Lib.size_eq] at this
    exact this
  have hn1 : 1 ≤ n := by have := decodeL_width (a0.data.toList.drop pos); rw [hdd] at this; exact this
  have hsz : (wr.iterAt k a0 (pos + n)).heap.size = wr.heap.size := Lib.iterAt_size _ _ _ _
  have hvk : some k ≠ v.ownBlock := by
    intro e
    rcases h2.2 with ⟨rfl, _⟩ | ⟨g, cap, cur, rfl, hg2, hh, _⟩
    · simp [Value.ownBlock] at e
    · simp [Value.ownBlock] at e
      subst e
      rw [h1] at hh
      cases hh
  refine ⟨?_, by rw [List.length_append, show nums .i64 (rs ++ [(c : Int)]) = nums .i64 rs ++ [.int .i64 c] from by simp [nums]]; exact hown, ?_, h4, by rw [List.length_append]; simp; omega, by omega, ?_⟩
  · rw [hg.block k (by rw [World.size_alloc, hsz]; omega) hvk, Below.heap_alloc _ _ _ (by rw [hsz]; exact hk)]
    exact Lib.iterAt_heap wr k a0 pos (pos + n) h1
  · have hb1 : Below w.heap.size w ((wr.iterAt k a0 (pos + n)).alloc o) := (Lib.below_iterAt h3 h4 a0 (pos + n)).alloc (by rw [hsz]; exact h3.size) _
    exact hb1.grown hg (by rw [World.size_alloc, hsz]; have := h3.size; omega) (fun j e => own_base h2 j e)
  · have hs := runes_step _ hne
    rw [hdd, List.drop_drop] at hs
    rw [List.append_assoc, List.singleton_append, ← hs]
    exact h7
set_option maxHeartbeats 2000000 in
set_option maxRecDepth 100000 in
theorem GRunes.calls (a0 : ByteArray) (r1 : List Int) (r2 : Int) (w : World) (hT : T8 w) (h : GRunes.f a0 = some (r1, r2)) :
    Calls Tryd.prog 48 #[.string a0] w fun e w' => ∃ v0_ : Value, e = .returned (.tuple #[v0_, .int .i64 r2]) ∧ Kd.R (Kd.int .i64) 3 w' w.heap.size (fun _ => True) v0_ r1 ∧ Below w.heap.size w w' := by
  unfold GRunes.f at h
  split at h
  case isFalse => cases h
  case isTrue hs =>
    have hV := Aside0.mk (GValidString.calls a0 (Lib.validD a0.data.toList) w hT (by unfold GValidString.f; rw [if_pos (by omega)]))
    clear hT
    cases hval : Lib.validD a0.data.toList with
    | false =>
      rw [hval] at h hV
      clear hval
      simp only [Option.some.injEq, Bool.false_eq_true, if_false, Prod.mk.injEq] at h
      obtain ⟨rfl, rfl⟩ := h
      go_enter Tryd.func48, Tryd.ntmps48
      go_wp2_with (go_at_call 25; refine hV.out.mono ?_; rintro e w1 ⟨rfl, hb⟩; have HB := Aside0.mk hb; clear hb)
      go_ret2
      exact ⟨_, rfl, Kd.R_nil _ _ _ _ _, HB.out⟩
    | true =>
      rw [hval] at h hV
      clear hval
      simp only [Option.some.injEq, if_true, Prod.mk.injEq] at h
      obtain ⟨rfl, rfl⟩ := h
      obtain ⟨i0, hi, hz0, hz1, hz2⟩ := info_parts info3
      go_enter Tryd.func48, Tryd.ntmps48
      go_wp2_with (go_at_call 25; refine hV.out.mono ?_; rintro e w1 ⟨rfl, hb⟩; have HB := Aside0.mk hb; clear hb hV)
      go_loopg [4] (a0.size + 1) (fun gk v4 wr => ∃ pos rs, Aside0 (RunesAt w a0 w1.heap.size pos rs v4 wr) ∧ Aside0 (a0.size - pos < gk))
      case atStart =>
        refine ⟨0, [], ⟨?_, World.ownsRow_nil _ _ _ _, ?_, HB.out.size, Nat.le_refl _, Nat.zero_le _, by simp⟩, ⟨by omega⟩⟩
        · exact World.iter_heap _ _ _
        · exact HB.out.alloc HB.out.size _
      case round =>
        obtain ⟨pos, rs, HR, HG⟩ := hrel
        obtain ⟨h1, h2, h3, h4, h5, h6, h7⟩ := HR.out
        have hap := HR.out.apart
        by_cases hlt : pos < a0.size
        · obtain ⟨c, n, hd⟩ : ∃ c n, Utf8.decode a0 pos = (c, n) := ⟨_, _, rfl⟩
          have hc31 := decode_le a0 pos
          have hnext : ∀ ty, (Instr.next (.pointer (some ⟨w1.heap.size, 0, none⟩)) true ty).run Tryd.prog wr = .ok (.tuple #[.bool true, .int .i64 pos, .int .i32 c]) (wr.iterAt w1.heap.size a0 (pos + n)) := fun ty => by
            have := Lib.run_next_any_at (P := Tryd.prog) wr w1.heap.size a0 pos ty h1 hlt
            rw [hd] at this
            exact this
          rw [hd] at hc31
          simp only at hc31
          have hown2 : (wr.iterAt w1.heap.size a0 (pos + n)).ownsRow w.heap.size 3 1 u4 rs.length (nums .i64 rs) := own_move h2 (fun j e => Lib.iterAt_other _ _ _ _ _ (hap j e))
          have hsz2 : (wr.iterAt w1.heap.size a0 (pos + n)).heap.size = wr.heap.size := Lib.iterAt_size _ _ _ _
          have HS := Aside0.mk (fun (o : Obj) (v1 : Value) (w3 : World) (x : w3.ownsRow w.heap.size 3 1 v1 (rs.length + 1) (nums .i64 rs ++ [.int .i64 c])) (y : ((wr.iterAt w1.heap.size a0 (pos + n)).alloc o).grownBy w3 u4.ownBlock) => HR.out.step hlt hd x y)
          have hwid : 1 ≤ n := by have := decodeL_width (a0.data.toList.drop pos); rw [← decode_drop, hd] at this; exact this
          have Hn := Aside0.mk hwid
          have Hb := Aside0.mk (Nat.le_trans h3.size (Nat.le_of_eq hsz2.symm))
          have Hl := Aside0.mk (show rs.length < 17592186044416 by omega)
          obtain ⟨W2, hW2⟩ : ∃ W2, wr.iterAt w1.heap.size a0 (pos + n) = W2 := ⟨_, rfl⟩
          rw [hW2] at hnext hown2 HS Hb
          have Hown2 := Aside0.mk hown2
          have Hlt := Aside0.mk hlt
          clear h1 h2 h3 h4 h5 h6 h7 hap hW2 hsz2 hd hown2 hwid HR HB hs hlt
          have hcb : (c : Int) ≤ 2147483647 := by omega
          go_wp2_with (at_builtin; refine wpList_append_own _ rfl _ _ 55 rfl w.heap.size 3 i0 (.int .i64 0) 1 8 Tryd.underlying55 hi hz0 hz1 hz2 rfl (by decide) _ _ _ rfl (Hown2.out.alloc _) ⟨W2.heap.size, 0, none⟩ 1 1 [.int .i64 c] rfl rfl ?c1 ?c2 ?c3 ?c4 ?c5 ?_)
          case c1 =>
            intro j u hj
            match j, hj with
            | 0, hj => simp at hj; subst hj; simp [Addr.add]
            | (j + 1), hj => simp at hj
          case c2 => intro u hu; simp at hu; subst hu; rfl
          case c3 => have := Hl.out; unfold maxLen; omega
          case c4 => have := Hl.out; omega
          case c5 => have := Hb.out; simp; omega
          intro v' w3 hown' hg _
          have HF := Aside0.mk (HS.out _ _ _ hown' hg)
          clear hown' hg HS Hown2
          go_wp2
          obtain ⟨gk, rfl⟩ : ∃ g, gk = g + 1 := ⟨gk - 1, by have := HG.out; omega⟩
          go_roundg gk
          case measure => omega
          case rel => exact ⟨pos + n, rs ++ [(c : Int)], HF, ⟨by have := HG.out; have := Hn.out; have := Hlt.out; omega⟩⟩
        · have hend : ∀ ty, (Instr.next (.pointer (some ⟨w1.heap.size, 0, none⟩)) true ty).run Tryd.prog wr = .ok (.tuple #[.bool false]) wr := fun ty => Lib.run_next_end_at wr w1.heap.size a0 pos ty h1 hlt
          have hrs : rs = runes a0.data.toList := by
            have e : a0.data.toList.drop pos = [] := List.drop_eq_nil_of_le (by rw [← Lib.size_eq]; omega)
            rw [e, runes_nil, List.append_nil] at h7
            exact h7
          have HF := Aside0.mk (Kd.R_of_own (ok := fun _ => True) (h1 := fun _ => rfl) (show wr.ownsRow w.heap.size 3 1 u4 (runes a0.data.toList).length (encs (Value.int .i64) (runes a0.data.toList)) by rw [← hrs]; exact h2) (fun _ _ => trivial))
          have H3 := Aside0.mk h3
          clear h1 h2 h3 h4 h5 h6 h7 hap hrs HR HB hs hlt
          go_wp2
          go_ret2
          exact ⟨_, rfl, HF.out, H3.out⟩
end Go.Proofs.YtjffpcjbbehooaaDoor.G
end
section
set_option linter.unusedVariables false
namespace Go.Proofs.YtjffpcjbbehooaaDoor.G
open Go.RowKit Go.Lib Go.Proofs.YtjffpcjbbehooaaDoorW.PrintWords
attribute [local go_sem] Oper.semAt_some
theorem cell_new_l (W : World) (v : Value) (t : TypeId) : (W.alloc (.cells #[v] t)).cell? ⟨W.heap.size, 0, none⟩ = some v ∧ (W.alloc (.cells #[v] t)).frozen? ⟨W.heap.size, 0, none⟩ = false := by
  constructor
  · unfold World.cell?
    rw [show (W.alloc (.cells #[v] t)).heap[(⟨W.heap.size, 0, none⟩ : Addr).block]? = some (.cells #[v] t (0, 0)) from World.alloc_heap_new W _]
    simp
  · unfold World.frozen?
    rw [show (W.alloc (.cells #[v] t)).heap[(⟨W.heap.size, 0, none⟩ : Addr).block]? = some (.cells #[v] t (0, 0)) from World.alloc_heap_new W _]
    simp
theorem cell_alloc_l {W : World} {a : Addr} {v : Value} {o : Obj} (h : W.cell? a = some v) : (W.alloc o).cell? a = some v := cell_kept h (World.grownBy_alloc W o none) (fun r e => by cases e)
theorem frozen_alloc_l {W : World} {a : Addr} {v : Value} {o : Obj} (h : W.cell? a = some v) (hf : W.frozen? a = false) : (W.alloc o).frozen? a = false := (frozen_kept h (World.grownBy_alloc W o none) (fun r e => by cases e)).trans hf
theorem two_cells {W : World} {a b : Addr} {u v : Value} (x y : Value) (hab : a.block ≠ b.block) (ha : W.cell? a = some u) (hb : W.cell? b = some v) : ((W.setCell a x).setCell b y).cell? a = some x ∧ ((W.setCell a x).setCell b y).cell? b = some y :=
  ⟨(cell_far hab y).trans (World.cell?_setCell_same' _ _ _ (by rw [ha]; rfl)), World.cell?_setCell_same' _ _ _ (by rw [cell_far (Ne.symm hab) x, hb]; rfl)⟩
/-- How many units a rune has. -/
def unitW (r : Nat) : Nat := if 65536 ≤ r then 2 else 1
def placesGo : Nat → Nat → Nat → List UInt8 → List (Nat × Nat)
  | 0, a, u, _ => [(a, u)]
  | n + 1, a, u, l => if l = [] then [(a, u)] else (a, u) :: placesGo n (a + (decodeL l).2) (u + unitW (decodeL l).1) (l.drop (decodeL l).2)
def placesFrom (a u : Nat) (l : List UInt8) : List (Nat × Nat) := placesGo l.length a u l
/-- Where runes begin, and where the text ends: in bytes, and in units. -/
def places (l : List UInt8) : List (Nat × Nat) := placesFrom 0 0 l
theorem placesGo_fuel : ∀ (n m : Nat) (a u : Nat) (l : List UInt8), l.length ≤ n → l.length ≤ m → placesGo n a u l = placesGo m a u l
  | 0, m, a, u, l, h, _ => by
    obtain rfl : l = [] := List.eq_nil_of_length_eq_zero (by omega)
    cases m <;> simp [placesGo]
  | n + 1, 0, a, u, l, _, h => by
    obtain rfl : l = [] := List.eq_nil_of_length_eq_zero (by omega)
    simp [placesGo]
  | n + 1, m + 1, a, u, l, h, k => by
    unfold placesGo
    by_cases c : l = []
    · simp [c]
    · have := decodeL_width l
      have : 0 < l.length := List.length_pos_iff.2 c
      rw [if_neg c, if_neg c, placesGo_fuel n m _ _ _ (by rw [List.length_drop]; omega) (by rw [List.length_drop]; omega)]
theorem placesFrom_nil (a u : Nat) : placesFrom a u [] = [(a, u)] := rfl
theorem placesFrom_step (a u : Nat) (l : List UInt8) (h : l ≠ []) : placesFrom a u l = (a, u) :: placesFrom (a + (decodeL l).2) (u + unitW (decodeL l).1) (l.drop (decodeL l).2) := by
  have h0 : 0 < l.length := List.length_pos_iff.2 h
  have := decodeL_width l
  obtain ⟨n, hn⟩ : ∃ n, l.length = n + 1 := ⟨l.length - 1, by omega⟩
  show placesGo l.length a u l = _
  rw [hn]
  unfold placesGo
  rw [if_neg h]
  congr 1
  exact placesGo_fuel _ _ _ _ _ (by rw [List.length_drop]; omega) (by rw [List.length_drop]; omega)
abbrev encP (p : Nat × Nat) : Array Value := #[.int .i64 p.1, .int .i64 p.2]
/-- What a round that goes on keeps: iterators, and the text's own box. -/
def KpP (Bn : Nat) (W W' : World) : Prop := KeepsWalks W W' ∧ ∀ v, W.cell? ⟨Bn, 0, none⟩ = some v → W'.cell? ⟨Bn, 0, none⟩ = some v
theorem grownBy_iterAt {w : World} {k : Nat} (s : ByteArray) (p : Nat) : w.grownBy (w.iterAt k s p) (some k) :=
  ⟨rfl, rfl, rfl, by rw [Lib.iterAt_size]; exact Nat.le_refl _, fun i _ hi => Lib.iterAt_other _ _ _ _ _ (fun e => hi (by rw [e]))⟩
theorem width_hi (x : Int) (h : 65536 ≤ x) (w : World) : Calls Tryd.prog 60 #[.int .i32 x] w fun e w' => e = .returned (.int .i64 2) ∧ w = w' := by
  go_enter Tryd.func60, Tryd.ntmps60
  go_wp2
  go_ret
  exact ⟨rfl, rfl⟩
theorem width_lo (x : Int) (h : x < 65536) (w : World) : Calls Tryd.prog 60 #[.int .i32 x] w fun e w' => e = .returned (.int .i64 1) ∧ w = w' := by
  go_enter Tryd.func60, Tryd.ntmps60
  go_wp2
  go_ret
  exact ⟨rfl, rfl⟩
theorem width_calls (c : Nat) (w : World) : Calls Tryd.prog 60 #[.int .i32 c] w fun e w' => e = .returned (.int .i64 (unitW c : Nat)) ∧ w = w' := by
  by_cases hc : 65536 ≤ c
  · have hu : unitW c = 2 := if_pos hc
    rw [hu]
    exact width_hi c (by omega) w
  · have hu : unitW c = 1 := if_neg hc
    rw [hu]
    exact width_lo c (by omega) w
theorem places_calls (s : ByteArray) (w : World) : Calls Tryd.prog 47 #[.string s] w fun e w' => e = .returned (.func (.func 59) #[] #[.pointer (some ⟨w.heap.size, 0, none⟩)]) ∧ w' = w.alloc (.cells #[.string s] 9) := by
  go_enter Tryd.func47, Tryd.ntmps47
  go_wp2
  go_ret
  exact ⟨rfl, rfl⟩
set_option maxHeartbeats 2000000 in
set_option maxRecDepth 100000 in
theorem places_stops (n : Nat) (hn : 1 ≤ n) (s : ByteArray) (hs : s.size ≤ 17592186044416) (Bn : Nat) (w : World) (hBn : w.cell? ⟨Bn, 0, none⟩ = some (.string s)) :
    SeqStopsK Fence.wide n Tryd.prog 59 #[.pointer (some ⟨Bn, 0, none⟩)] encP (KpP Bn) (fun xs => xs = places s.data.toList) (fun pre => pre <+: places s.data.toList) (places s.data.toList).length w := fun l J Jx W hW hJ hJx hY h0 => by
  have hBW : W.cell? ⟨Bn, 0, none⟩ = some (.string s) := (hW.cell (World.block_lt_of_cell? w _ hBn)).trans hBn
  have hJ0 : J [] (W.iter s 0) := hJ [] W _ none h0 (World.grownBy_alloc W _ none) (fun r e => by cases e)
  have hB0 : (W.iter s 0).cell? ⟨Bn, 0, none⟩ = some (.string s) := ((below_alloc (Below.refl _ W) _).cell (World.block_lt_of_cell? W _ hBW)).trans hBW
  have Hs := Aside0.mk hs
  have HY := Aside0.mk hY
  have HJ := Aside0.mk hJ
  have HJ0 := Aside0.mk hJ0
  have HB0 := Aside0.mk hB0
  clear hs hY hJ hJ0 hB0 hJx h0 hW hBn
  refine callsIn_of_wp Tryd.func59 rfl trivial ?_ rfl
  simp only [Tryd.ntmps59, List.size_toArray, List.length_cons, List.length_nil, Nat.reduceAdd, Nat.reduceSub, Array.replicate_succ, Array.replicate_zero, List.push_toArray, List.append_toArray, List.nil_append, List.cons_append]
  gi_wp2
  gi_loopw [3] (fun v3 wr => ∃ (pos u : Nat) (pre : List (Nat × Nat)), v3 = .int .i64 (u : Int) ∧ Aside0 (wr.heap[W.heap.size]? = some (.stringIter s pos)) ∧ Aside0 (wr.cell? ⟨Bn, 0, none⟩ = some (.string s)) ∧ Aside0 (J pre wr) ∧ Aside0 (pos ≤ s.size ∧ u ≤ 2 * pos ∧ pre ++ placesFrom pos u (s.data.toList.drop pos) = places s.data.toList))
    (fun v3 wr => s.size - wr.iterPos W.heap.size)
  case atStart =>
    exact ⟨0, 0, [], rfl, ⟨World.iter_heap W s 0⟩, HB0, HJ0, ⟨Nat.zero_le _, Nat.zero_le _, rfl⟩⟩
  case round =>
    obtain ⟨pos, u, pre, rfl, Hit, Hbn, HJr, HP⟩ := hrel
    obtain ⟨hp1, hp2, hp3⟩ := HP.out
    by_cases hlt : pos < s.size
    · have hne : s.data.toList.drop pos ≠ [] := by
        intro e
        have := congrArg List.length e
        rw [List.length_drop, ← Lib.size_eq] at this
        simp at this
        omega
      obtain ⟨c, m, hd⟩ : ∃ c m, Utf8.decode s pos = (c, m) := ⟨_, _, rfl⟩
      have hdd : decodeL (s.data.toList.drop pos) = (c, m) := by rw [← decode_drop]; exact hd
      have hm1 : 1 ≤ m := by have := decodeL_width (s.data.toList.drop pos); rw [hdd] at this; exact this
      have hm2 : pos + m ≤ s.size := by
        have := decodeL_le _ hne
        rw [hdd, List.length_drop, ← Lib.size_eq] at this
        simp only at this
        omega
      have hcr : c ≤ 1114111 := by have := decodeL_rune (s.data.toList.drop pos); rw [hdd] at this; exact this
      have hnext : ∀ ty, (Instr.next (.pointer (some ⟨W.heap.size, 0, none⟩)) true ty).run Tryd.prog wr = .ok (.tuple #[.bool true, .int .i64 pos, .int .i32 c]) (wr.iterAt W.heap.size s (pos + m)) := fun ty => by
        have := Lib.run_next_any_at (P := Tryd.prog) wr W.heap.size s pos ty Hit.out hlt
        rw [hd] at this
        exact this
      have hst := placesFrom_step pos u _ hne
      rw [hdd, List.drop_drop] at hst
      simp only at hst
      rw [hst] at hp3
      have hN : pre.length < (places s.data.toList).length := by rw [← hp3, List.length_append, List.length_cons]; omega
      have hJ2 : J pre (wr.iterAt W.heap.size s (pos + m)) := HJ.out pre wr _ (some W.heap.size) HJr.out (grownBy_iterAt s _) (fun r e => by cases e; exact ⟨Nat.le_refl _, _, Hit.out, rfl⟩)
      have hit2 := Lib.iterAt_heap wr W.heap.size s pos (pos + m) Hit.out
      have hbn2 : (wr.iterAt W.heap.size s (pos + m)).cell? ⟨Bn, 0, none⟩ = some (.string s) := by
        rw [← Hbn.out]
        exact World.cell?_of_block (Lib.iterAt_other _ _ _ _ _ (by
          rintro rfl
          have := Hbn.out
          rw [World.cell?] at this
          rw [Hit.out] at this
          cases this))
      have hip : wr.iterPos W.heap.size = pos := iterPos_of Hit.out
      have HQ := Aside0.mk (show (pre ++ [(pos, u)]) ++ placesFrom (pos + m) (u + unitW c) (s.data.toList.drop (pos + m)) = places s.data.toList by rw [List.append_assoc, List.singleton_append]; exact hp3)
      generalize wr.iterAt W.heap.size s (pos + m) = W2 at hnext hJ2 hit2 hbn2
      obtain ⟨fn, tmps, assign, body, hy, hR⟩ := HY.out pre (pos, u) W2 hJ2 hN
      dsimp only [encP] at hy
      have HR := Aside0.mk hR
      have Hit2 := Aside0.mk hit2
      have Hbn2 := Aside0.mk hbn2
      have Hip := Aside0.mk hip
      have Hn := Aside0.mk (And.intro hm1 hm2)
      have hub : u ≤ 35184372088832 := by have := Hs.out; omega
      have hub2 : (u : Int) ≤ 35184372088832 := by omega
      have Hu := Aside0.mk hp2
      have Hlt := Aside0.mk hlt
      clear hp1 hp2 hp3 hne hd hdd hm1 hm2 hst hN hJ2 hit2 hbn2 hip hlt hR HP Hit Hbn HJr
      have HW := Aside0.mk (width_calls c)
      have hq2 : unitW c ≤ 2 := by unfold unitW; split <;> omega
      generalize unitW c = q at HQ HW hq2
      have hq3 : (q : Int) ≤ 2 := by omega
      gi_wp2
      refine HR.out.mono ?_
      rintro e W3 (⟨rfl, hJ3, hk3⟩ | ⟨rfl, hJx3⟩)
      · have HJ3 := Aside0.mk hJ3
        have HK3 := Aside0.mk hk3
        clear hJ3 hk3
        gi_wp2_with (refine ⟨trivial, ?_⟩; gi_at_call 60; refine (callsIn_wide.2 (HW.out _)).mono ?_; rintro e w' ⟨rfl, rfl⟩)
        go_roundw
        case rel => exact ⟨pos + m, u + q, pre ++ [(pos, u)], by go_num, ⟨HK3.out.1.same _ _ Hit2.out rfl⟩, ⟨HK3.out.2 _ Hbn2.out⟩, HJ3, ⟨Hn.out.2, by have := Hn.out.1; have := Hu.out; omega, HQ.out⟩⟩
        case measure => rw [iterPos_of (HK3.out.1.same _ _ Hit2.out rfl), Hip.out]; have := Hn.out.1; have := Hlt.out; omega
      · gi_wp2
        refine bodyPost_ret (results_none rfl _ _ _) rfl ?_
        exact ⟨⟨_, rfl⟩, .inr ⟨pre ++ [(pos, u)], ⟨_, HQ.out⟩, hJx3⟩⟩
    · obtain rfl : pos = s.size := by omega
      have hend : ∀ ty, (Instr.next (.pointer (some ⟨W.heap.size, 0, none⟩)) true ty).run Tryd.prog wr = .ok (.tuple #[.bool false]) wr := fun ty => Lib.run_next_end_at wr W.heap.size s s.size ty Hit.out (by omega)
      have e : s.data.toList.drop s.size = [] := List.drop_eq_nil_of_le (by rw [← Lib.size_eq]; omega)
      rw [e, placesFrom_nil] at hp3
      have hN : pre.length < (places s.data.toList).length := by rw [← hp3, List.length_append]; simp
      have HQ := Aside0.mk hp3
      obtain ⟨fn, tmps, assign, body, hy, hR⟩ := HY.out pre (s.size, u) wr HJr.out hN
      dsimp only [encP] at hy
      have hbn := Hbn.out
      have HR := Aside0.mk hR
      clear hp1 hp2 hp3 e hN hlt hR HP Hit HJr
      gi_wp2
      refine HR.out.mono ?_
      rintro e W3 (⟨rfl, hJ3, hk3⟩ | ⟨rfl, hJx3⟩)
      · gi_wp2
        go_end0
        exact ⟨⟨_, rfl⟩, .inl ⟨pre ++ [(s.size, u)], HQ.out, hJ3⟩⟩
      · gi_wp2
        go_end0
        exact ⟨⟨_, rfl⟩, .inr ⟨pre ++ [(s.size, u)], ⟨[], by rw [List.append_nil]; exact HQ.out⟩, hJx3⟩⟩
end Go.Proofs.YtjffpcjbbehooaaDoor.G
end
section
set_option linter.unusedVariables false
namespace Go.Proofs.YtjffpcjbbehooaaDoor.G
open Go.RowKit Go.Lib Go.Proofs.YtjffpcjbbehooaaDoorW.PrintWords
attribute [local go_sem] Oper.semAt_some
theorem KpP.trans {Bn : Nat} {A B C : World} (h : KpP Bn A B) (k : KpP Bn B C) : KpP Bn A C := ⟨h.1.trans k.1, fun v hv => k.2 v (h.2 v hv)⟩
theorem KpP.refl (Bn : Nat) (A : World) : KpP Bn A A := ⟨KeepsWalks.refl _, fun _ h => h⟩
theorem KpP.book {Bn : Nat} {w : World} (hB : Bn < w.heap.size) (W : World) (l : Nat) (o o' : Obj) (hl : w.heap.size ≤ l) (h : W.heap[l]? = some o) (_ : o.isCells = false) (hw : o.isWalk = false) : KpP Bn W (W.putObj l o') :=
  ⟨KeepsWalks.putObj _ h hw, fun v hv => by rw [← hv]; exact World.cell?_of_block (World.putObj_heap_other (by show Bn ≠ l; omega))⟩

/-- The place at which a unit is told, and its byte. -/
def offsetOf (l : List UInt8) (x : Int) : Int × Int := match (places l).find? (fun p => (p.2 : Int) == x) with
  | some p => (p.1, 0)
  | none => (0, 70)
set_option maxHeartbeats 4000000 in
set_option maxRecDepth 100000 in
theorem GOffset.valid (a0 : ByteArray) (a1 : Int) (w : World) (hT : T8 w) (hs : a0.size ≤ 17592186044416) (hv : Lib.validD a0.data.toList = true) :
    Calls Tryd.prog 30 #[.string a0, .int .i64 a1] w fun e w' => e = .returned (.tuple #[.int .i64 (offsetOf a0.data.toList a1).1, .int .i64 (offsetOf a0.data.toList a1).2]) ∧ Below w.heap.size w w' := by
  have HV := Aside0.mk (fun (W : World) (hb : Below w.heap.size w W) => GValidString.calls a0 true W (T8_below hT hb) (by unfold GValidString.f; rw [if_pos (by omega), hv]))
  have Hs := Aside0.mk hs
  clear hT hv hs
  refine (callsIn_wide (n := 4)).1 ?_
  refine callsIn_of_wp_marks Tryd.func30 rfl trivial ?_ rfl
  simp only [Tryd.ntmps30, List.size_toArray, List.length_cons, List.length_nil, Nat.reduceAdd, Nat.reduceSub, Array.replicate_succ, Array.replicate_zero, List.push_toArray, List.append_toArray, List.nil_append, List.cons_append]
  gi_wp2_with (first | (refine ⟨trivial, ?_⟩; gi_at_call 25; refine (callsIn_wide.2 (HV.out _ (by repeat (first | exact Below.refl _ _ | apply below_alloc)))).mono ?_; rintro e w1 ⟨rfl, hb⟩; have HB := Aside0.mk hb; clear hb) | (refine ⟨trivial, ?_⟩; gi_at_call 47; refine (callsIn_wide.2 (places_calls a0 _)).mono ?_; rintro e w2 ⟨rfl, rfl⟩))
  have c3 := cell_new_l w (.int .i64 a1) 3
  have c4 := cell_new_l (w.alloc (.cells #[.int .i64 a1] 3)) (.int .i64 0) 3
  have c5 := cell_new_l ((w.alloc (.cells #[.int .i64 a1] 3)).alloc (.cells #[.int .i64 0] 3)) (.int .i64 0) 26
  simp only [World.size_alloc] at c4 c5
  have cB := cell_new_l w1 (.string a0) 9
  have A3 := cell_alloc_l (o := .cells #[.int .i64 0] 26) (cell_alloc_l (o := .cells #[.int .i64 0] 3) c3.1)
  have A4 := cell_alloc_l (o := .cells #[.int .i64 0] 26) c4.1
  have F4 := frozen_alloc_l (o := .cells #[.int .i64 0] 26) c4.1 c4.2
  have A5 := c5.1
  have F5 := c5.2
  have D3 := cell_alloc_l (o := .cells #[.string a0] 9) ((HB.out.cell (World.block_lt_of_cell? _ _ A3)).trans A3)
  have D4 := cell_alloc_l (o := .cells #[.string a0] 9) ((HB.out.cell (World.block_lt_of_cell? _ _ A4)).trans A4)
  have E4 := frozen_alloc_l (o := .cells #[.string a0] 9) ((HB.out.cell (World.block_lt_of_cell? _ _ A4)).trans A4) ((HB.out.frozen (World.block_lt_of_cell? _ _ A4)).trans F4)
  have D5 := cell_alloc_l (o := .cells #[.string a0] 9) ((HB.out.cell (World.block_lt_of_cell? _ _ A5)).trans A5)
  have E5 := frozen_alloc_l (o := .cells #[.string a0] 9) ((HB.out.cell (World.block_lt_of_cell? _ _ A5)).trans A5) ((HB.out.frozen (World.block_lt_of_cell? _ _ A5)).trans F5)
  have hB1 : Below w.heap.size w (w1.alloc (.cells #[.string a0] 9)) := below_alloc (below_step (below_alloc (below_alloc (below_alloc (Below.refl _ w) _) _) _) HB.out) _
  have hsz : w.heap.size + 1 + 1 < w1.heap.size := by have := HB.out.size; simp at this; omega
  clear c3 c4 c5 A3 A4 F4 A5 F5
  refine wpIn_rangeFunc_ownF rfl (by omega) (gf := 59) (lb := #[.pointer (some ⟨w1.heap.size, 0, none⟩)]) rfl trivial (enters_of Tryd.func59 (by kernel_rfl) rfl)
    (places_stops (4 - 1) (by omega) a0 Hs.out w1.heap.size (w1.alloc (.cells #[.string a0] 9)) cB.1) KpP.trans (KpP.book (by simp)) (Below.refl _ _) (fun _ => rfl)
    (fun pre W => (pre.find? (fun p => (p.2 : Int) == a1) = none ∧ W.cell? ⟨w.heap.size, 0, none⟩ = some (.int .i64 a1) ∧ W.cell? ⟨w.heap.size + 1, 0, none⟩ = some (.int .i64 0) ∧ W.frozen? ⟨w.heap.size + 1, 0, none⟩ = false ∧ W.cell? ⟨w.heap.size + 1 + 1, 0, none⟩ = some (.int .i64 0) ∧ W.frozen? ⟨w.heap.size + 1 + 1, 0, none⟩ = false) ∧ Below w.heap.size w W)
    (fun c pre W => (c = .ret ∧ ∃ p, pre.find? (fun p => (p.2 : Int) == a1) = some p ∧ W.cell? ⟨w.heap.size + 1, 0, none⟩ = some (.int .i64 (p.1 : Int)) ∧ W.cell? ⟨w.heap.size + 1 + 1, 0, none⟩ = some (.int .i64 0)) ∧ Below w.heap.size w W)
    (OwnFrom.and (Own.from (fun s A B row hs hg hr => ⟨hs.1, cell_kept hs.2.1 hg hr, cell_kept hs.2.2.1 hg hr, (frozen_kept hs.2.2.1 hg hr).trans hs.2.2.2.1, cell_kept hs.2.2.2.2.1 hg hr, (frozen_kept hs.2.2.2.2.1 hg hr).trans hs.2.2.2.2.2⟩) _) (ownFrom_below (Nat.le_refl _) (by simp; omega)))
    (fun c => OwnFrom.and (Own.from (fun s A B row hs hg hr => by obtain ⟨h1, p, h2, h3, h4⟩ := hs; exact ⟨h1, p, h2, cell_kept h3 hg hr, cell_kept h4 hg hr⟩) _) (ownFrom_below (Nat.le_refl _) (by simp; omega)))
    ⟨⟨rfl, D3, D4, E4, D5, E5⟩, hB1⟩
    (fun x => { tmps := #[.string a0, .int .i64 a1, undef, .pointer (some ⟨w.heap.size, 0, none⟩), .pointer (some ⟨w.heap.size + 1, 0, none⟩), .pointer (some ⟨w.heap.size + 1 + 1, 0, none⟩), .int .i64 x.1, .int .i64 x.2, .string a0, .bool true, .bool false, .string a0, .func (.func 59) #[] #[.pointer (some ⟨w1.heap.size, 0, none⟩)], .int .i64 x.1, .int .i64 x.2, undef, undef, undef, undef], defers := [] }) ?assign ?body ?done ?stop
  case assign =>
    intro l x W K hK
    gi_wp2
    exact hK
  case body =>
    rintro l pre x W ⟨⟨hp, hc3, hc4, hf4, hc5, hf5⟩, hB⟩ _
    have HP := Aside0.mk hp
    clear hp
    cases hx : ((x.2 : Int) == a1) with
    | true =>
      have HF := Aside0.mk (show (pre ++ [x]).find? (fun p => (p.2 : Int) == a1) = some x by rw [List.find?_append, HP.out]; simp [hx])
      gi_wp2
      have h2c := two_cells (.int .i64 (x.1 : Int)) (.int .i64 0) (show w.heap.size + 1 ≠ w.heap.size + 1 + 1 by omega) hc4 hc5
      exact ⟨(KeepsOthers.setCell _ _ _).trans (KeepsOthers.setCell _ _ _), ⟨rfl, x, HF.out, h2c.1, h2c.2⟩, (hB.setCell (p := ⟨w.heap.size + 1, 0, none⟩) (by simp) _).setCell (p := ⟨w.heap.size + 1 + 1, 0, none⟩) (by simp; omega) _⟩
    | false =>
      have HF := Aside0.mk (show (pre ++ [x]).find? (fun p => (p.2 : Int) == a1) = none by rw [List.find?_append, HP.out]; simp [hx])
      gi_wp2
      exact ⟨KeepsOthers.refl _, KpP.refl _ _, ⟨HF.out, hc3, hc4, hf4, hc5, hf5⟩, hB⟩
  case done =>
    rintro D ys W hD rfl ⟨⟨hp, hc3, hc4, hf4, hc5, hf5⟩, hB⟩ hK
    have HO := Aside0.mk (show offsetOf a0.data.toList a1 = (0, 70) by unfold offsetOf; rw [hp])
    clear hp
    gi_wp2
    have hK' := ((KeepsOthers.setCell W ⟨w.heap.size + 1, 0, none⟩ (.int .i64 0)).trans (KeepsOthers.setCell _ ⟨w.heap.size + 1 + 1, 0, none⟩ (.int .i64 70))).same D _ hK rfl
    refine ⟨by simp, .inl ⟨_, _, rfl, run_takeDeferred hK', ?_⟩⟩
    have h2c := two_cells (.int .i64 0) (.int .i64 70) (show w.heap.size + 1 ≠ w.heap.size + 1 + 1 by omega) hc4 hc5
    have g4 := cell_kept (show ((W.setCell ⟨w.heap.size + 1, 0, none⟩ (.int .i64 0)).setCell ⟨w.heap.size + 1 + 1, 0, none⟩ (.int .i64 70)).cell? ⟨w.heap.size + 1, 0, none⟩ = some (.int .i64 0) from h2c.1) (grownBy_putObj' _ D (.deferred none)) (fun r e => by cases e; exact ⟨_, hK', rfl⟩)
    have g5 := cell_kept (show ((W.setCell ⟨w.heap.size + 1, 0, none⟩ (.int .i64 0)).setCell ⟨w.heap.size + 1 + 1, 0, none⟩ (.int .i64 70)).cell? ⟨w.heap.size + 1 + 1, 0, none⟩ = some (.int .i64 70) from h2c.2) (grownBy_putObj' _ D (.deferred none)) (fun r e => by cases e; exact ⟨_, hK', rfl⟩)
    refine ⟨.tuple #[.int .i64 0, .int .i64 70], ?_, by rw [HO.out], ((hB.setCell (p := ⟨w.heap.size + 1, 0, none⟩) (by simp) _).setCell (p := ⟨w.heap.size + 1 + 1, 0, none⟩) (by simp; omega) _).trans (belowK_b (w := w) (Nat.le_refl _) _ D _ _ (by simp at hD; omega) hK' rfl rfl)⟩
    simp [results, Tryd.f30, go_sem, g4, g5]
  case stop =>
    rintro D c pre W hD hpre ⟨⟨rfl, p, hp, hc4, hc5⟩, hB⟩ hK
    have HO := Aside0.mk (show offsetOf a0.data.toList a1 = ((p.1 : Int), 0) by
      obtain ⟨t, ht⟩ := hpre
      unfold offsetOf
      rw [← ht, List.find?_append, hp]
      rfl)
    clear hp hpre
    gi_wp2
    refine ⟨by simp, .inl ⟨_, _, rfl, run_takeDeferred hK, ?_⟩⟩
    have g4 := cell_kept hc4 (grownBy_putObj' _ D (.deferred none)) (fun r e => by cases e; exact ⟨_, hK, rfl⟩)
    have g5 := cell_kept hc5 (grownBy_putObj' _ D (.deferred none)) (fun r e => by cases e; exact ⟨_, hK, rfl⟩)
    refine ⟨.tuple #[.int .i64 (p.1 : Int), .int .i64 0], ?_, by rw [HO.out], hB.trans (belowK_b (w := w) (Nat.le_refl _) W D _ _ (by simp at hD; omega) hK rfl rfl)⟩
    simp [results, Tryd.f30, go_sem, g4, g5]
set_option maxHeartbeats 4000000 in
set_option maxRecDepth 100000 in
theorem GOffset.invalid (a0 : ByteArray) (a1 : Int) (w : World) (hT : T8 w) (hs : a0.size ≤ 17592186044416) (hv : Lib.validD a0.data.toList = false) :
    Calls Tryd.prog 30 #[.string a0, .int .i64 a1] w fun e w' => e = .returned (.tuple #[.int .i64 0, .int .i64 40]) ∧ Below w.heap.size w w' := by
  have HV := Aside0.mk (fun (W : World) (hb : Below w.heap.size w W) => GValidString.calls a0 false W (T8_below hT hb) (by unfold GValidString.f; rw [if_pos (by omega), hv]))
  clear hT hv hs
  go_enter Tryd.func30, Tryd.ntmps30
  go_wp2_with (go_at_call 25; refine (HV.out _ (by repeat (first | exact Below.refl _ _ | apply below_alloc))).mono ?_; rintro e w1 ⟨rfl, hb⟩; have HB := Aside0.mk hb; clear hb; have c4 := cell_new_l (w.alloc (.cells #[.int .i64 a1] 3)) (.int .i64 0) 3; have c5 := cell_new_l ((w.alloc (.cells #[.int .i64 a1] 3)).alloc (.cells #[.int .i64 0] 3)) (.int .i64 0) 26; simp only [World.size_alloc] at c4 c5; have A4 := cell_alloc_l (o := .cells #[.int .i64 0] 26) c4.1; have F4 := frozen_alloc_l (o := .cells #[.int .i64 0] 26) c4.1 c4.2; have A5 := c5.1; have F5 := c5.2; have D4 := (HB.out.cell (World.block_lt_of_cell? _ _ A4)).trans A4; have E4 := (HB.out.frozen (World.block_lt_of_cell? _ _ A4)).trans F4; have D5 := (HB.out.cell (World.block_lt_of_cell? _ _ A5)).trans A5; have E5 := (HB.out.frozen (World.block_lt_of_cell? _ _ A5)).trans F5; have HB1 := Aside0.mk (below_step (below_alloc (below_alloc (below_alloc (Below.refl _ w) _) _) _) HB.out); clear c4 c5 A4 F4 A5 F5 HB)
  refine bodyPost_ret (v := .tuple #[.int .i64 0, .int .i64 40]) (by simp [results, Tryd.f30, go_sem, D4, D5]) rfl ⟨rfl, ?_⟩
  exact (HB1.out.setCell (p := ⟨w.heap.size + 1, 0, none⟩) (by simp) _).setCell (p := ⟨w.heap.size + 1 + 1, 0, none⟩) (by simp; omega) _
def GOffset.f (a0 : ByteArray) (a1 : Int) : Option (Int × Int) := if a0.size ≤ 17592186044416 then some (if Lib.validD a0.data.toList then offsetOf a0.data.toList a1 else (0, 40)) else none
theorem GOffset.calls (a0 : ByteArray) (a1 r1 r2 : Int) (w : World) (hT : T8 w) (h : GOffset.f a0 a1 = some (r1, r2)) :
    Calls Tryd.prog 30 #[.string a0, .int .i64 a1] w fun e w' => e = .returned (.tuple #[.int .i64 r1, .int .i64 r2]) ∧ Below w.heap.size w w' := by
  unfold GOffset.f at h
  split at h
  case isFalse => cases h
  case isTrue hs =>
    cases hv : Lib.validD a0.data.toList with
    | false =>
      rw [hv] at h
      simp only [Option.some.injEq, Bool.false_eq_true, if_false, Prod.mk.injEq] at h
      obtain ⟨rfl, rfl⟩ := h
      exact GOffset.invalid a0 a1 w hT hs hv
    | true =>
      rw [hv] at h
      simp only [Option.some.injEq, if_true] at h
      have := GOffset.valid a0 a1 w hT hs hv
      rw [h] at this
      exact this

end Go.Proofs.YtjffpcjbbehooaaDoor.G
end
