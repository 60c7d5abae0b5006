/-
  strings.SplitSeq at a line feed, and the lines of a text: iterators; their contracts.
-/
import Derived.Test.YtjffpcjbbehooaaDoorIterX
import Derived.Test.YtjffpcjbbehooaaDoorSplitPure
import Derived.Test.YtjffpcjbbehooaaDoorTabs
import Derived.Test.YtjffpcjbbehooaaDoorWWords
import Derived.Test.YtjffpcjbbehooaaDoorShelf
import Derived.Lib.OthersKept
import Derived.WalkSmall
import Derived.RangeFuncBound
import Derived.RangeFuncCalls
import Derived.RangeFuncLeaves
import Derived.WalkKit
import Derived.OwnWalkIn
import Derived.TacticsInMore
import Derived.LoopNIn
import Derived.LoopIn
set_option linter.unusedVariables false
namespace Go.Proofs.YtjffpcjbbehooaaDoor.G
open Go.RowKit Go.Lib Go.Proofs.YtjffpcjbbehooaaDoorW.PrintWords
attribute [local go_sem] Oper.semAt_some
theorem index_calls (s : ByteArray) (w : World) : Calls Tryd.prog 44 #[.string s, .string ⟨#[10]⟩] w fun e w' => e = .returned (.int .i64 (indexByte s.data.toList 10)) ∧ w' = w :=
  Any.strings_Index_one Tryd.lays143 s 10 w
def strAt (w : World) (b : Nat) : Nat := match w.cell? ⟨b, 0, none⟩ with
  | some (.string s) => s.size
  | _ => 0
theorem strAt_of {w : World} {b : Nat} {s : ByteArray} {t : TypeId} (h : Boxed w b t (.string s)) : strAt w b = s.size := by
  unfold strAt
  rw [h.cell]
theorem Boxed.keep {X : Nat → Prop} {A B : World} {b : Nat} {t : TypeId} {v : Value} (h : Boxed A b t v) (hk : KeepX X A B) (hx : ¬ X b) : Boxed B b t v := (hk.block b h.lt hx).trans h
abbrev encS (x : ByteArray) : Array Value := #[.string x]
set_option maxHeartbeats 4000000 in
set_option maxRecDepth 100000 in
theorem split_iter (n : Nat) (s : ByteArray) (Bs Bp Bv : Nat) (w : World) (hsz : s.size ≤ 281474976710656) (h12 : Bs ≠ Bp) (h13 : Bs ≠ Bv)
    (hs : Boxed w Bs 9 (.string s)) (hp : Boxed w Bp 9 (.string ⟨#[10]⟩)) (hv : Boxed w Bv 3 (.int .i64 0)) :
    IterX n Tryd.prog 66 #[.pointer (some ⟨Bp, 0, none⟩), .pointer (some ⟨Bs, 0, none⟩), .pointer (some ⟨Bv, 0, none⟩)] encS (fun k => k = Bs ∨ k = Bp ∨ k = Bv) (splitB s) w := fun l X J Jx W hW hX hJ hJx hY h0 => by
  have hs0 : Boxed W Bs 9 (.string s) := (hW.block Bs hs.lt).trans hs
  have hp0 : Boxed W Bp 9 (.string ⟨#[10]⟩) := (hW.block Bp hp.lt).trans hp
  have hv0 : Boxed W Bv 3 (.int .i64 0) := (hW.block Bv hv.lt).trans hv
  have xs : ¬ X Bs := fun h => (hX _ h).2 (.inl rfl)
  have xp : ¬ X Bp := fun h => (hX _ h).2 (.inr (.inl rfl))
  have xv : ¬ X Bv := fun h => (hX _ h).2 (.inr (.inr rfl))
  have HY := Aside0.mk hY
  have HJ := Aside0.mk hJ
  have H0 := Aside0.mk h0
  have HX := Aside0.mk (And.intro xs (And.intro xp xv))
  have HN := Aside0.mk (And.intro h12 h13)
  have HXB := Aside0.mk hX
  have HZ := Aside0.mk hsz
  have HS0 := Aside0.mk hs0
  have HP0 := Aside0.mk hp0
  have HV0 := Aside0.mk hv0
  have c2 := hp0.cell
  have c1 := hs0.cell
  have c3 := hv0.cell
  clear hY hJ h0 xs xp xv h12 h13 hsz hJx hX hW hs hp hv hs0 hp0 hv0
  refine callsIn_of_wp Tryd.func66 rfl trivial ?_ rfl
  simp only [Tryd.ntmps66, List.size_toArray, List.length_cons, List.length_nil, Nat.reduceAdd, Nat.reduceSub, Array.replicate_succ, Array.replicate_zero, List.push_toArray, List.append_toArray, List.nil_append, List.cons_append]
  gi_wp2
  gi_loopw [7, 8] (fun v7 v8 wr => ∃ (pre : List ByteArray) (cur : ByteArray), Aside0 (Boxed wr Bs 9 (.string cur)) ∧ Aside0 (Boxed wr Bp 9 (.string ⟨#[10]⟩)) ∧ Aside0 (Boxed wr Bv 3 (.int .i64 0)) ∧ Aside0 (J pre wr) ∧ Aside0 (KeepX (fun k => X k ∨ k = Bs ∨ k = Bp ∨ k = Bv) W wr) ∧ Aside0 (pre ++ splitB cur = splitB s ∧ cur.size ≤ s.size))
    (fun v7 v8 wr => strAt wr Bs)
  case atStart => exact ⟨[], s, HS0, HP0, HV0, H0, ⟨KeepX.refl _ _⟩, ⟨rfl, Nat.le_refl _⟩⟩
  case round =>
    obtain ⟨pre, cur, BS, BP, BV, HJr, HK, HQ⟩ := hrel
    obtain ⟨hq1, hq2⟩ := HQ.out
    have hb1 := BS.out.cell
    have hb2 := BP.out.cell
    have hb3 := BV.out.cell
    have hf1 := BS.out.frozen
    have hge := indexByte_ge cur.data.toList 10
    have IX := Aside0.mk (index_calls cur)
    by_cases hneg : indexByte cur.data.toList 10 = -1
    · rw [hneg] at IX
      rw [splitB_end cur hneg] at hq1
      have HE := Aside0.mk hq1
      obtain ⟨fn, tmps, assign, body, hy, hR⟩ := HY.out pre cur wr HJr.out HK.out (by rw [hq1]; exact List.prefix_refl _)
      dsimp only [encS] at hy
      have HR := Aside0.mk hR
      clear hR hq1 hq2 HQ hge hneg
      gi_wp2_with (refine ⟨trivial, (fun h => by cases h), ?_⟩; refine (callsIn_wide.2 (IX.out _)).mono ?_; rintro e w' ⟨rfl, rfl⟩)
      refine ⟨(fun h => by cases h), HR.out.mono ?_⟩
      rintro e W3 ⟨hk3, (⟨rfl, hJ3⟩ | ⟨rfl, hJx3⟩)⟩
      · have HK3 := HK.out.trans (hk3.mono fun k _ h => .inl h)
        gi_wp2
        go_end0
        exact ⟨⟨_, rfl⟩, HK3, .inl (by rw [← HE.out]; exact hJ3)⟩
      · have HK3 := HK.out.trans (hk3.mono fun k _ h => .inl h)
        gi_wp2
        go_end0
        exact ⟨⟨_, rfl⟩, HK3, .inr ⟨pre ++ [cur], by rw [HE.out]; exact List.prefix_refl _, hJx3⟩⟩
    · obtain ⟨i, hi⟩ : ∃ i : Nat, indexByte cur.data.toList 10 = (i : Int) := ⟨(indexByte cur.data.toList 10).toNat, by omega⟩
      rw [hi] at IX
      obtain ⟨hlt, hstep⟩ := splitB_step cur i hi
      rw [hstep] at hq1
      have HE := Aside0.mk hq1
      obtain ⟨fn, tmps, assign, body, hy, hR⟩ := HY.out pre (cur.extract 0 i) wr HJr.out HK.out (by rw [← hq1]; exact ⟨_, by rw [List.append_assoc]; rfl⟩)
      dsimp only [encS] at hy
      have HR := Aside0.mk hR
      have hi0 : (0 : Int) ≤ (i : Int) := by omega
      have hi1 : (i : Int) ≤ (cur.size : Int) := by omega
      have hw : wrap64 (i : Int) = (i : Int) := by unfold wrap64; have := HZ.out; omega
      have hw1 : wrap64 ((i : Int) + 1) = ((i + 1 : Nat) : Int) := by unfold wrap64; have := HZ.out; omega
      have hi2 : (0 : Int) ≤ ((i + 1 : Nat) : Int) := by omega
      have hi3 : ((i + 1 : Nat) : Int) ≤ (cur.size : Int) := by omega
      have hn0 : ¬ ((i : Int) < 0) := by omega
      have Hlt := Aside0.mk hlt
      clear hR hq1 HQ hge hneg hi hstep hlt
      gi_wp2_with (refine ⟨trivial, (fun h => by cases h), ?_⟩; refine (callsIn_wide.2 (IX.out _)).mono ?_; rintro e w' ⟨rfl, rfl⟩)
      refine ⟨(fun h => by cases h), HR.out.mono ?_⟩
      rintro e W3 ⟨hk3, (⟨rfl, hJ3⟩ | ⟨rfl, hJx3⟩)⟩
      · have HK3 := Aside0.mk (HK.out.trans (hk3.mono fun k _ h => .inl h))
        have B1 := Aside0.mk (Boxed.keep BS.out hk3 HX.out.1)
        have B2 := Aside0.mk (Boxed.keep BP.out hk3 HX.out.2.1)
        have B3 := Aside0.mk (Boxed.keep BV.out hk3 HX.out.2.2)
        have d1 := B1.out.cell
        have d2 := B2.out.cell
        have d3 := B3.out.cell
        have f1 := B1.out.frozen
        have HJ3 := Aside0.mk hJ3
        have MS := Aside0.mk (strAt_of BS.out)
        clear hJ3 hb1 hb2 hb3 hf1 hk3 hy
        gi_wp2
        go_roundw
        case rel =>
          refine ⟨pre ++ [cur.extract 0 i], cur.extract (i + 1) cur.size, ⟨B1.out.set _⟩, ⟨B2.out.other (Ne.symm HN.out.1) _⟩, ⟨B3.out.other (Ne.symm HN.out.2) _⟩, ⟨HJ.out _ _ _ HJ3.out fun k hk => ?_⟩, ⟨HK3.out.trans (KeepX.setCell W3 (.inr (.inl rfl)) _)⟩, ⟨by rw [List.append_assoc]; exact HE.out, ?_⟩⟩
          · exact (KeepX.setCell (X := fun k => k = Bs) W3 rfl _).block k (Nat.lt_of_lt_of_le (HXB.out k hk).1 HK3.out.size) (fun e => (HXB.out k hk).2 (.inl e))
          · rw [ByteArray.size_extract]
            omega
        case measure =>
          rw [strAt_of (B1.out.set _), MS.out, ByteArray.size_extract]
          have := Hlt.out
          omega
      · have HK3 := HK.out.trans (hk3.mono fun k _ h => .inl h)
        gi_wp2
        refine bodyPost_ret (results_none rfl _ _ _) rfl ?_
        exact ⟨⟨_, rfl⟩, HK3, .inr ⟨pre ++ [cur.extract 0 i], by rw [← HE.out]; exact ⟨_, by rw [List.append_assoc]; rfl⟩, hJx3⟩⟩
end Go.Proofs.YtjffpcjbbehooaaDoor.G
