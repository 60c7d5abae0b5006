/-
  utf.Runes: a range over a text's runes, collected: its contract, in the printer's words.
-/
import Derived.Test.YtjffpcjbbehooaaDoorTabs
import Derived.Test.YtjffpcjbbehooaaDoorUtfWords
import Derived.Test.YtjffpcjbbehooaaDoorWWords
import Derived.Test.YtjffpcjbbehooaaDoorGValid
import Derived.Lib.OthersKept
import Derived.WalkSmall
import Derived.WalkKit
import Derived.Deep.LoopGhost
set_option linter.unusedVariables false
namespace Go.Proofs.YtjffpcjbbehooaaDoor.G
open Go.RowKit Go.Proofs.YtjffpcjbbehooaaDoorW.PrintWords Go.Lib
theorem info3 : (Tryd.prog.info? 3).map (fun i => (i.zero, i.size, i.bytes)) = some (some (.int .i64 0), 1, 8) := by kernel_rfl
def GRunes.f (a0 : ByteArray) : Option (List Int × Int) := if a0.size ≤ 17592186044416 then some (if Lib.validD a0.data.toList then (runes a0.data.toList, 0) else ([], 40)) else none
/-- What holds at each round's head: pos bytes have been read, rs are the runes that they told. -/
def RunesAt (w : World) (a0 : ByteArray) (k : Nat) (pos : Nat) (rs : List Int) (v : Value) (wr : World) : Prop :=
  wr.heap[k]? = some (.stringIter a0 pos) ∧ wr.ownsRow w.heap.size 3 1 v rs.length (nums .i64 rs) ∧ Below w.heap.size w wr ∧ w.heap.size ≤ k ∧ rs.length ≤ pos ∧ pos ≤ a0.size ∧ rs ++ runes (a0.data.toList.drop pos) = runes a0.data.toList
theorem RunesAt.apart {w : World} {a0 : ByteArray} {k pos : Nat} {rs : List Int} {v : Value} {wr : World} (h : RunesAt w a0 k pos rs v wr) : ∀ j, v.ownBlock = some j → j ≠ k := by
  rintro j e rfl
  obtain ⟨h1, h2, _⟩ := h
  rcases h2.2 with ⟨rfl, _⟩ | ⟨g, cap, cur, rfl, hg2, hh, _⟩
  · simp [Value.ownBlock] at e
  · simp [Value.ownBlock] at e
    subst e
    rw [h1] at hh
    cases hh
theorem RunesAt.step {w : World} {a0 : ByteArray} {k pos : Nat} {rs : List Int} {v : Value} {wr : World} (h : RunesAt w a0 k pos rs v wr) (hlt : pos < a0.size) {c n : Nat} (hd : Utf8.decode a0 pos = (c, n)) {o : Obj} {v1 : Value} {w1 : World}
    (hown : w1.ownsRow w.heap.size 3 1 v1 (rs.length + 1) (nums .i64 rs ++ [.int .i64 c])) (hg : ((wr.iterAt k a0 (pos + n)).alloc o).grownBy w1 v.ownBlock) : RunesAt w a0 k (pos + n) (rs ++ [(c : Int)]) v1 w1 := by
  obtain ⟨h1, h2, h3, h4, h5, h6, h7⟩ := h
  have hk : k < wr.heap.size := (Array.getElem?_eq_some_iff.1 h1).1
  have hne : a0.data.toList.drop pos ≠ [] := by
    intro e
    have := congrArg List.length e
    rw [List.length_drop, ← Lib.size_eq] at this
    simp at this
    omega
  have hdd : decodeL (a0.data.toList.drop pos) = (c, n) := by rw [← decode_drop]; exact hd
  have hle : n ≤ a0.size - pos := by
    have := decodeL_le _ hne
    rw [hdd, List.length_drop, ← Lib.size_eq] at this
    exact this
  have hn1 : 1 ≤ n := by have := decodeL_width (a0.data.toList.drop pos); rw [hdd] at this; exact this
  have hsz : (wr.iterAt k a0 (pos + n)).heap.size = wr.heap.size := Lib.iterAt_size _ _ _ _
  have hvk : some k ≠ v.ownBlock := by
    intro e
    rcases h2.2 with ⟨rfl, _⟩ | ⟨g, cap, cur, rfl, hg2, hh, _⟩
    · simp [Value.ownBlock] at e
    · simp [Value.ownBlock] at e
      subst e
      rw [h1] at hh
      cases hh
  refine ⟨?_, by rw [List.length_append, show nums .i64 (rs ++ [(c : Int)]) = nums .i64 rs ++ [.int .i64 c] from by simp [nums]]; exact hown, ?_, h4, by rw [List.length_append]; simp; omega, by omega, ?_⟩
  · rw [hg.block k (by rw [World.size_alloc, hsz]; omega) hvk, Below.heap_alloc _ _ _ (by rw [hsz]; exact hk)]
    exact Lib.iterAt_heap wr k a0 pos (pos + n) h1
  · have hb1 : Below w.heap.size w ((wr.iterAt k a0 (pos + n)).alloc o) := (Lib.below_iterAt h3 h4 a0 (pos + n)).alloc (by rw [hsz]; exact h3.size) _
    exact hb1.grown hg (by rw [World.size_alloc, hsz]; have := h3.size; omega) (fun j e => own_base h2 j e)
  · have hs := runes_step _ hne
    rw [hdd, List.drop_drop] at hs
    rw [List.append_assoc, List.singleton_append, ← hs]
    exact h7
set_option maxHeartbeats 2000000 in
set_option maxRecDepth 100000 in
theorem GRunes.calls (a0 : ByteArray) (r1 : List Int) (r2 : Int) (w : World) (hT : T8 w) (h : GRunes.f a0 = some (r1, r2)) :
    Calls Tryd.prog 48 #[.string a0] w fun e w' => ∃ v0_ : Value, e = .returned (.tuple #[v0_, .int .i64 r2]) ∧ Kd.R (Kd.int .i64) 3 w' w.heap.size (fun _ => True) v0_ r1 ∧ Below w.heap.size w w' := by
  unfold GRunes.f at h
  split at h
  case isFalse => cases h
  case isTrue hs =>
    have hV := Aside0.mk (GValidString.calls a0 (Lib.validD a0.data.toList) w hT (by unfold GValidString.f; rw [if_pos (by omega)]))
    clear hT
    cases hval : Lib.validD a0.data.toList with
    | false =>
      rw [hval] at h hV
      clear hval
      simp only [Option.some.injEq, Bool.false_eq_true, if_false, Prod.mk.injEq] at h
      obtain ⟨rfl, rfl⟩ := h
      go_enter Tryd.func48, Tryd.ntmps48
      go_wp2_with (go_at_call 25; refine hV.out.mono ?_; rintro e w1 ⟨rfl, hb⟩; have HB := Aside0.mk hb; clear hb)
      go_ret2
      exact ⟨_, rfl, Kd.R_nil _ _ _ _ _, HB.out⟩
    | true =>
      rw [hval] at h hV
      clear hval
      simp only [Option.some.injEq, if_true, Prod.mk.injEq] at h
      obtain ⟨rfl, rfl⟩ := h
      obtain ⟨i0, hi, hz0, hz1, hz2⟩ := info_parts info3
      go_enter Tryd.func48, Tryd.ntmps48
      go_wp2_with (go_at_call 25; refine hV.out.mono ?_; rintro e w1 ⟨rfl, hb⟩; have HB := Aside0.mk hb; clear hb hV)
      go_loopg [4] (a0.size + 1) (fun gk v4 wr => ∃ pos rs, Aside0 (RunesAt w a0 w1.heap.size pos rs v4 wr) ∧ Aside0 (a0.size - pos < gk))
      case atStart =>
        refine ⟨0, [], ⟨?_, World.ownsRow_nil _ _ _ _, ?_, HB.out.size, Nat.le_refl _, Nat.zero_le _, by simp⟩, ⟨by omega⟩⟩
        · exact World.iter_heap _ _ _
        · exact HB.out.alloc HB.out.size _
      case round =>
        obtain ⟨pos, rs, HR, HG⟩ := hrel
        obtain ⟨h1, h2, h3, h4, h5, h6, h7⟩ := HR.out
        have hap := HR.out.apart
        by_cases hlt : pos < a0.size
        · obtain ⟨c, n, hd⟩ : ∃ c n, Utf8.decode a0 pos = (c, n) := ⟨_, _, rfl⟩
          have hc31 := decode_le a0 pos
          have hnext : ∀ ty, (Instr.next (.pointer (some ⟨w1.heap.size, 0, none⟩)) true ty).run Tryd.prog wr = .ok (.tuple #[.bool true, .int .i64 pos, .int .i32 c]) (wr.iterAt w1.heap.size a0 (pos + n)) := fun ty => by
            have := Lib.run_next_any_at (P := Tryd.prog) wr w1.heap.size a0 pos ty h1 hlt
            rw [hd] at this
            exact this
          rw [hd] at hc31
          simp only at hc31
          have hown2 : (wr.iterAt w1.heap.size a0 (pos + n)).ownsRow w.heap.size 3 1 u4 rs.length (nums .i64 rs) := own_move h2 (fun j e => Lib.iterAt_other _ _ _ _ _ (hap j e))
          have hsz2 : (wr.iterAt w1.heap.size a0 (pos + n)).heap.size = wr.heap.size := Lib.iterAt_size _ _ _ _
          have HS := Aside0.mk (fun (o : Obj) (v1 : Value) (w3 : World) (x : w3.ownsRow w.heap.size 3 1 v1 (rs.length + 1) (nums .i64 rs ++ [.int .i64 c])) (y : ((wr.iterAt w1.heap.size a0 (pos + n)).alloc o).grownBy w3 u4.ownBlock) => HR.out.step hlt hd x y)
          have hwid : 1 ≤ n := by have := decodeL_width (a0.data.toList.drop pos); rw [← decode_drop, hd] at this; exact this
          have Hn := Aside0.mk hwid
          have Hb := Aside0.mk (Nat.le_trans h3.size (Nat.le_of_eq hsz2.symm))
          have Hl := Aside0.mk (show rs.length < 17592186044416 by omega)
          obtain ⟨W2, hW2⟩ : ∃ W2, wr.iterAt w1.heap.size a0 (pos + n) = W2 := ⟨_, rfl⟩
          rw [hW2] at hnext hown2 HS Hb
          have Hown2 := Aside0.mk hown2
          have Hlt := Aside0.mk hlt
          clear h1 h2 h3 h4 h5 h6 h7 hap hW2 hsz2 hd hown2 hwid HR HB hs hlt
          have hcb : (c : Int) ≤ 2147483647 := by omega
          go_wp2_with (at_builtin; refine wpList_append_own _ rfl _ _ 55 rfl w.heap.size 3 i0 (.int .i64 0) 1 8 Tryd.underlying55 hi hz0 hz1 hz2 rfl (by decide) _ _ _ rfl (Hown2.out.alloc _) ⟨W2.heap.size, 0, none⟩ 1 1 [.int .i64 c] rfl rfl ?c1 ?c2 ?c3 ?c4 ?c5 ?_)
          case c1 =>
            intro j u hj
            match j, hj with
            | 0, hj => simp at hj; subst hj; simp [Addr.add]
            | (j + 1), hj => simp at hj
          case c2 => intro u hu; simp at hu; subst hu; rfl
          case c3 => have := Hl.out; unfold maxLen; omega
          case c4 => have := Hl.out; omega
          case c5 => have := Hb.out; simp; omega
          intro v' w3 hown' hg _
          have HF := Aside0.mk (HS.out _ _ _ hown' hg)
          clear hown' hg HS Hown2
          go_wp2
          obtain ⟨gk, rfl⟩ : ∃ g, gk = g + 1 := ⟨gk - 1, by have := HG.out; omega⟩
          go_roundg gk
          case measure => omega
          case rel => exact ⟨pos + n, rs ++ [(c : Int)], HF, ⟨by have := HG.out; have := Hn.out; have := Hlt.out; omega⟩⟩
        · have hend : ∀ ty, (Instr.next (.pointer (some ⟨w1.heap.size, 0, none⟩)) true ty).run Tryd.prog wr = .ok (.tuple #[.bool false]) wr := fun ty => Lib.run_next_end_at wr w1.heap.size a0 pos ty h1 hlt
          have hrs : rs = runes a0.data.toList := by
            have e : a0.data.toList.drop pos = [] := List.drop_eq_nil_of_le (by rw [← Lib.size_eq]; omega)
            rw [e, runes_nil, List.append_nil] at h7
            exact h7
          have HF := Aside0.mk (Kd.R_of_own (ok := fun _ => True) (h1 := fun _ => rfl) (show wr.ownsRow w.heap.size 3 1 u4 (runes a0.data.toList).length (encs (Value.int .i64) (runes a0.data.toList)) by rw [← hrs]; exact h2) (fun _ _ => trivial))
          have H3 := Aside0.mk h3
          clear h1 h2 h3 h4 h5 h6 h7 hap hrs HR HB hs hlt
          go_wp2
          go_ret2
          exact ⟨_, rfl, HF.out, H3.out⟩
end Go.Proofs.YtjffpcjbbehooaaDoor.G
