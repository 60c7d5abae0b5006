/-
  utf.Offset and utf.Unit: a range over the places of a text (an iterator over its runes): their contracts, in the printer's words.
-/
import Derived.Test.YtjffpcjbbehooaaDoorTabs
import Derived.Test.YtjffpcjbbehooaaDoorUtfWords
import Derived.Test.YtjffpcjbbehooaaDoorWWords
import Derived.Test.YtjffpcjbbehooaaDoorGValid
import Derived.Lib.OthersKept
import Derived.WalkSmall
import Derived.RangeFuncFrom
import Derived.RangeFuncNested
import Derived.RangeFuncBound
import Derived.RangeFuncCalls
import Derived.RangeFuncLeaves
import Derived.WalkKit
import Derived.OwnWalkIn
import Derived.TacticsInMore
import Derived.LoopNIn
import Derived.LoopIn
set_option linter.unusedVariables false
namespace Go.Proofs.YtjffpcjbbehooaaDoor.G
open Go.RowKit Go.Lib Go.Proofs.YtjffpcjbbehooaaDoorW.PrintWords
attribute [local go_sem] Oper.semAt_some
theorem cell_new_l (W : World) (v : Value) (t : TypeId) : (W.alloc (.cells #[v] t)).cell? ⟨W.heap.size, 0, none⟩ = some v ∧ (W.alloc (.cells #[v] t)).frozen? ⟨W.heap.size, 0, none⟩ = false := by
  constructor
  · unfold World.cell?
    rw [show (W.alloc (.cells #[v] t)).heap[(⟨W.heap.size, 0, none⟩ : Addr).block]? = some (.cells #[v] t (0, 0)) from World.alloc_heap_new W _]
    simp
  · unfold World.frozen?
    rw [show (W.alloc (.cells #[v] t)).heap[(⟨W.heap.size, 0, none⟩ : Addr).block]? = some (.cells #[v] t (0, 0)) from World.alloc_heap_new W _]
    simp
theorem cell_alloc_l {W : World} {a : Addr} {v : Value} {o : Obj} (h : W.cell? a = some v) : (W.alloc o).cell? a = some v := cell_kept h (World.grownBy_alloc W o none) (fun r e => by cases e)
theorem frozen_alloc_l {W : World} {a : Addr} {v : Value} {o : Obj} (h : W.cell? a = some v) (hf : W.frozen? a = false) : (W.alloc o).frozen? a = false := (frozen_kept h (World.grownBy_alloc W o none) (fun r e => by cases e)).trans hf
theorem two_cells {W : World} {a b : Addr} {u v : Value} (x y : Value) (hab : a.block ≠ b.block) (ha : W.cell? a = some u) (hb : W.cell? b = some v) : ((W.setCell a x).setCell b y).cell? a = some x ∧ ((W.setCell a x).setCell b y).cell? b = some y :=
  ⟨(cell_far hab y).trans (World.cell?_setCell_same' _ _ _ (by rw [ha]; rfl)), World.cell?_setCell_same' _ _ _ (by rw [cell_far (Ne.symm hab) x, hb]; rfl)⟩
/-- How many units a rune has. -/
def unitW (r : Nat) : Nat := if 65536 ≤ r then 2 else 1
def placesGo : Nat → Nat → Nat → List UInt8 → List (Nat × Nat)
  | 0, a, u, _ => [(a, u)]
  | n + 1, a, u, l => if l = [] then [(a, u)] else (a, u) :: placesGo n (a + (decodeL l).2) (u + unitW (decodeL l).1) (l.drop (decodeL l).2)
def placesFrom (a u : Nat) (l : List UInt8) : List (Nat × Nat) := placesGo l.length a u l
/-- Where runes begin, and where the text ends: in bytes, and in units. -/
def places (l : List UInt8) : List (Nat × Nat) := placesFrom 0 0 l
theorem placesGo_fuel : ∀ (n m : Nat) (a u : Nat) (l : List UInt8), l.length ≤ n → l.length ≤ m → placesGo n a u l = placesGo m a u l
  | 0, m, a, u, l, h, _ => by
    obtain rfl : l = [] := List.eq_nil_of_length_eq_zero (by omega)
    cases m <;> simp [placesGo]
  | n + 1, 0, a, u, l, _, h => by
    obtain rfl : l = [] := List.eq_nil_of_length_eq_zero (by omega)
    simp [placesGo]
  | n + 1, m + 1, a, u, l, h, k => by
    unfold placesGo
    by_cases c : l = []
    · simp [c]
    · have := decodeL_width l
      have : 0 < l.length := List.length_pos_iff.2 c
      rw [if_neg c, if_neg c, placesGo_fuel n m _ _ _ (by rw [List.length_drop]; omega) (by rw [List.length_drop]; omega)]
theorem placesFrom_nil (a u : Nat) : placesFrom a u [] = [(a, u)] := rfl
theorem placesFrom_step (a u : Nat) (l : List UInt8) (h : l ≠ []) : placesFrom a u l = (a, u) :: placesFrom (a + (decodeL l).2) (u + unitW (decodeL l).1) (l.drop (decodeL l).2) := by
  have h0 : 0 < l.length := List.length_pos_iff.2 h
  have := decodeL_width l
  obtain ⟨n, hn⟩ : ∃ n, l.length = n + 1 := ⟨l.length - 1, by omega⟩
  show placesGo l.length a u l = _
  rw [hn]
  unfold placesGo
  rw [if_neg h]
  congr 1
  exact placesGo_fuel _ _ _ _ _ (by rw [List.length_drop]; omega) (by rw [List.length_drop]; omega)
abbrev encP (p : Nat × Nat) : Array Value := #[.int .i64 p.1, .int .i64 p.2]
/-- What a round that goes on keeps: iterators, and the text's own box. -/
def KpP (Bn : Nat) (W W' : World) : Prop := KeepsWalks W W' ∧ ∀ v, W.cell? ⟨Bn, 0, none⟩ = some v → W'.cell? ⟨Bn, 0, none⟩ = some v
theorem grownBy_iterAt {w : World} {k : Nat} (s : ByteArray) (p : Nat) : w.grownBy (w.iterAt k s p) (some k) :=
  ⟨rfl, rfl, rfl, by rw [Lib.iterAt_size]; exact Nat.le_refl _, fun i _ hi => Lib.iterAt_other _ _ _ _ _ (fun e => hi (by rw [e]))⟩
theorem width_hi (x : Int) (h : 65536 ≤ x) (w : World) : Calls Tryd.prog 60 #[.int .i32 x] w fun e w' => e = .returned (.int .i64 2) ∧ w = w' := by
  go_enter Tryd.func60, Tryd.ntmps60
  go_wp2
  go_ret
  exact ⟨rfl, rfl⟩
theorem width_lo (x : Int) (h : x < 65536) (w : World) : Calls Tryd.prog 60 #[.int .i32 x] w fun e w' => e = .returned (.int .i64 1) ∧ w = w' := by
  go_enter Tryd.func60, Tryd.ntmps60
  go_wp2
  go_ret
  exact ⟨rfl, rfl⟩
theorem width_calls (c : Nat) (w : World) : Calls Tryd.prog 60 #[.int .i32 c] w fun e w' => e = .returned (.int .i64 (unitW c : Nat)) ∧ w = w' := by
  by_cases hc : 65536 ≤ c
  · have hu : unitW c = 2 := if_pos hc
    rw [hu]
    exact width_hi c (by omega) w
  · have hu : unitW c = 1 := if_neg hc
    rw [hu]
    exact width_lo c (by omega) w
theorem places_calls (s : ByteArray) (w : World) : Calls Tryd.prog 47 #[.string s] w fun e w' => e = .returned (.func (.func 59) #[] #[.pointer (some ⟨w.heap.size, 0, none⟩)]) ∧ w' = w.alloc (.cells #[.string s] 9) := by
  go_enter Tryd.func47, Tryd.ntmps47
  go_wp2
  go_ret
  exact ⟨rfl, rfl⟩
set_option maxHeartbeats 2000000 in
set_option maxRecDepth 100000 in
theorem places_stops (n : Nat) (hn : 1 ≤ n) (s : ByteArray) (hs : s.size ≤ 17592186044416) (Bn : Nat) (w : World) (hBn : w.cell? ⟨Bn, 0, none⟩ = some (.string s)) :
    SeqStopsK Fence.wide n Tryd.prog 59 #[.pointer (some ⟨Bn, 0, none⟩)] encP (KpP Bn) (fun xs => xs = places s.data.toList) (fun pre => pre <+: places s.data.toList) (places s.data.toList).length w := fun l J Jx W hW hJ hJx hY h0 => by
  have hBW : W.cell? ⟨Bn, 0, none⟩ = some (.string s) := (hW.cell (World.block_lt_of_cell? w _ hBn)).trans hBn
  have hJ0 : J [] (W.iter s 0) := hJ [] W _ none h0 (World.grownBy_alloc W _ none) (fun r e => by cases e)
  have hB0 : (W.iter s 0).cell? ⟨Bn, 0, none⟩ = some (.string s) := ((below_alloc (Below.refl _ W) _).cell (World.block_lt_of_cell? W _ hBW)).trans hBW
  have Hs := Aside0.mk hs
  have HY := Aside0.mk hY
  have HJ := Aside0.mk hJ
  have HJ0 := Aside0.mk hJ0
  have HB0 := Aside0.mk hB0
  clear hs hY hJ hJ0 hB0 hJx h0 hW hBn
  refine callsIn_of_wp Tryd.func59 rfl trivial ?_ rfl
  simp only [Tryd.ntmps59, List.size_toArray, List.length_cons, List.length_nil, Nat.reduceAdd, Nat.reduceSub, Array.replicate_succ, Array.replicate_zero, List.push_toArray, List.append_toArray, List.nil_append, List.cons_append]
  gi_wp2
  gi_loopw [3] (fun v3 wr => ∃ (pos u : Nat) (pre : List (Nat × Nat)), v3 = .int .i64 (u : Int) ∧ Aside0 (wr.heap[W.heap.size]? = some (.stringIter s pos)) ∧ Aside0 (wr.cell? ⟨Bn, 0, none⟩ = some (.string s)) ∧ Aside0 (J pre wr) ∧ Aside0 (pos ≤ s.size ∧ u ≤ 2 * pos ∧ pre ++ placesFrom pos u (s.data.toList.drop pos) = places s.data.toList))
    (fun v3 wr => s.size - wr.iterPos W.heap.size)
  case atStart =>
    exact ⟨0, 0, [], rfl, ⟨World.iter_heap W s 0⟩, HB0, HJ0, ⟨Nat.zero_le _, Nat.zero_le _, rfl⟩⟩
  case round =>
    obtain ⟨pos, u, pre, rfl, Hit, Hbn, HJr, HP⟩ := hrel
    obtain ⟨hp1, hp2, hp3⟩ := HP.out
    by_cases hlt : pos < s.size
    · have hne : s.data.toList.drop pos ≠ [] := by
        intro e
        have := congrArg List.length e
        rw [List.length_drop, ← Lib.size_eq] at this
        simp at this
        omega
      obtain ⟨c, m, hd⟩ : ∃ c m, Utf8.decode s pos = (c, m) := ⟨_, _, rfl⟩
      have hdd : decodeL (s.data.toList.drop pos) = (c, m) := by rw [← decode_drop]; exact hd
      have hm1 : 1 ≤ m := by have := decodeL_width (s.data.toList.drop pos); rw [hdd] at this; exact this
      have hm2 : pos + m ≤ s.size := by
        have := decodeL_le _ hne
        rw [hdd, List.length_drop, ← Lib.size_eq] at this
        simp only at this
        omega
      have hcr : c ≤ 1114111 := by have := decodeL_rune (s.data.toList.drop pos); rw [hdd] at this; exact this
      have hnext : ∀ ty, (Instr.next (.pointer (some ⟨W.heap.size, 0, none⟩)) true ty).run Tryd.prog wr = .ok (.tuple #[.bool true, .int .i64 pos, .int .i32 c]) (wr.iterAt W.heap.size s (pos + m)) := fun ty => by
        have := Lib.run_next_any_at (P := Tryd.prog) wr W.heap.size s pos ty Hit.out hlt
        rw [hd] at this
        exact this
      have hst := placesFrom_step pos u _ hne
      rw [hdd, List.drop_drop] at hst
      simp only at hst
      rw [hst] at hp3
      have hN : pre.length < (places s.data.toList).length := by rw [← hp3, List.length_append, List.length_cons]; omega
      have hJ2 : J pre (wr.iterAt W.heap.size s (pos + m)) := HJ.out pre wr _ (some W.heap.size) HJr.out (grownBy_iterAt s _) (fun r e => by cases e; exact ⟨Nat.le_refl _, _, Hit.out, rfl⟩)
      have hit2 := Lib.iterAt_heap wr W.heap.size s pos (pos + m) Hit.out
      have hbn2 : (wr.iterAt W.heap.size s (pos + m)).cell? ⟨Bn, 0, none⟩ = some (.string s) := by
        rw [← Hbn.out]
        exact World.cell?_of_block (Lib.iterAt_other _ _ _ _ _ (by
          rintro rfl
          have := Hbn.out
          rw [World.cell?] at this
          rw [Hit.out] at this
          cases this))
      have hip : wr.iterPos W.heap.size = pos := iterPos_of Hit.out
      have HQ := Aside0.mk (show (pre ++ [(pos, u)]) ++ placesFrom (pos + m) (u + unitW c) (s.data.toList.drop (pos + m)) = places s.data.toList by rw [List.append_assoc, List.singleton_append]; exact hp3)
      generalize wr.iterAt W.heap.size s (pos + m) = W2 at hnext hJ2 hit2 hbn2
      obtain ⟨fn, tmps, assign, body, hy, hR⟩ := HY.out pre (pos, u) W2 hJ2 hN
      dsimp only [encP] at hy
      have HR := Aside0.mk hR
      have Hit2 := Aside0.mk hit2
      have Hbn2 := Aside0.mk hbn2
      have Hip := Aside0.mk hip
      have Hn := Aside0.mk (And.intro hm1 hm2)
      have hub : u ≤ 35184372088832 := by have := Hs.out; omega
      have hub2 : (u : Int) ≤ 35184372088832 := by omega
      have Hu := Aside0.mk hp2
      have Hlt := Aside0.mk hlt
      clear hp1 hp2 hp3 hne hd hdd hm1 hm2 hst hN hJ2 hit2 hbn2 hip hlt hR HP Hit Hbn HJr
      have HW := Aside0.mk (width_calls c)
      have hq2 : unitW c ≤ 2 := by unfold unitW; split <;> omega
      generalize unitW c = q at HQ HW hq2
      have hq3 : (q : Int) ≤ 2 := by omega
      gi_wp2
      refine HR.out.mono ?_
      rintro e W3 (⟨rfl, hJ3, hk3⟩ | ⟨rfl, hJx3⟩)
      · have HJ3 := Aside0.mk hJ3
        have HK3 := Aside0.mk hk3
        clear hJ3 hk3
        gi_wp2_with (refine ⟨trivial, ?_⟩; gi_at_call 60; refine (callsIn_wide.2 (HW.out _)).mono ?_; rintro e w' ⟨rfl, rfl⟩)
        go_roundw
        case rel => exact ⟨pos + m, u + q, pre ++ [(pos, u)], by go_num, ⟨HK3.out.1.same _ _ Hit2.out rfl⟩, ⟨HK3.out.2 _ Hbn2.out⟩, HJ3, ⟨Hn.out.2, by have := Hn.out.1; have := Hu.out; omega, HQ.out⟩⟩
        case measure => rw [iterPos_of (HK3.out.1.same _ _ Hit2.out rfl), Hip.out]; have := Hn.out.1; have := Hlt.out; omega
      · gi_wp2
        refine bodyPost_ret (results_none rfl _ _ _) rfl ?_
        exact ⟨⟨_, rfl⟩, .inr ⟨pre ++ [(pos, u)], ⟨_, HQ.out⟩, hJx3⟩⟩
    · obtain rfl : pos = s.size := by omega
      have hend : ∀ ty, (Instr.next (.pointer (some ⟨W.heap.size, 0, none⟩)) true ty).run Tryd.prog wr = .ok (.tuple #[.bool false]) wr := fun ty => Lib.run_next_end_at wr W.heap.size s s.size ty Hit.out (by omega)
      have e : s.data.toList.drop s.size = [] := List.drop_eq_nil_of_le (by rw [← Lib.size_eq]; omega)
      rw [e, placesFrom_nil] at hp3
      have hN : pre.length < (places s.data.toList).length := by rw [← hp3, List.length_append]; simp
      have HQ := Aside0.mk hp3
      obtain ⟨fn, tmps, assign, body, hy, hR⟩ := HY.out pre (s.size, u) wr HJr.out hN
      dsimp only [encP] at hy
      have hbn := Hbn.out
      have HR := Aside0.mk hR
      clear hp1 hp2 hp3 e hN hlt hR HP Hit HJr
      gi_wp2
      refine HR.out.mono ?_
      rintro e W3 (⟨rfl, hJ3, hk3⟩ | ⟨rfl, hJx3⟩)
      · gi_wp2
        go_end0
        exact ⟨⟨_, rfl⟩, .inl ⟨pre ++ [(s.size, u)], HQ.out, hJ3⟩⟩
      · gi_wp2
        go_end0
        exact ⟨⟨_, rfl⟩, .inr ⟨pre ++ [(s.size, u)], ⟨[], by rw [List.append_nil]; exact HQ.out⟩, hJx3⟩⟩
end Go.Proofs.YtjffpcjbbehooaaDoor.G
