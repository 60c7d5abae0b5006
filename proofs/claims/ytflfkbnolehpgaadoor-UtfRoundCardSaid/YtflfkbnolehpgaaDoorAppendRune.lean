/-
  utf8.AppendRune onto a row of bytes of the call's own, at this dump: the rune's bytes come behind what the row holds, and the row that comes out is the old block or a new one.
-/
import Derived.Test.YtflfkbnolehpgaaDoorProg
import Derived.Test.YtflfkbnolehpgaaDoorWWords
import Derived.Test.YtflfkbnolehpgaaDoorWKept
import Derived.Lib.RuneBytes
import Derived.WalkKit
set_option linter.unusedVariables false
namespace Go.Proofs.YtflfkbnolehpgaaDoor.AR
open Go.RowKit Go.Proofs.YtflfkbnolehpgaaDoorW.PrintWords
theorem info5 : (Tryd.prog.info? 5).map (fun i => (i.zero, i.size, i.bytes)) = some (some (.int .u8 0), 1, 1) := by kernel_rfl
def Post (l0 ys : List Int) (v : Value) (w0 w : World) (e : Ending) (w' : World) : Prop :=
  ∃ v', e = .returned v' ∧ w'.ownsRow w0.heap.size 5 1 v' (l0 ++ ys).length (nums .u8 (l0 ++ ys)) ∧ Below w0.heap.size w0 w' ∧ (∃ o, (w.alloc o).grownBy w' v.ownBlock) ∧ (v'.ownBlock = v.ownBlock ∨ ∃ b, v'.ownBlock = some b ∧ w.heap.size ≤ b)
theorem fresh_reads (w : World) (ys : List Int) (hl : ys.length ≤ 9223372036854775807) : ReadsInt (w.alloc (.cells (ys.map (Value.int .u8)).toArray 5)) .u8 (some ⟨w.heap.size, 0, none⟩) ys.length ys := by
  refine ⟨rfl, hl, fun _ => ⟨_, rfl, fun j hj => ?_⟩⟩
  have ha : (Addr.add ⟨w.heap.size, 0, none⟩ j) = ⟨w.heap.size, j, none⟩ := by
    unfold Addr.add
    split
    · rename_i h; rw [h]
    · simp
  rw [ha]
  have hh : (w.alloc (.cells (ys.map (Value.int .u8)).toArray 5)).heap[w.heap.size]? = some (.cells (ys.map (Value.int .u8)).toArray 5 (0, 0)) := by
    show (w.heap.push _)[w.heap.size]? = _
    simp
  simp only [World.cell?]
  rw [hh]
  simp [hj, List.getD_eq_getElem?_getD]
theorem fresh_reads' (w : World) (ys : List Int) (cs : Array Value) (m : Nat) (hl : ys.length ≤ 9223372036854775807) (hm : ys.length = m) (hc : cs = (ys.map (Value.int .u8)).toArray) : ReadsInt (w.alloc (.cells cs 5)) .u8 (some ⟨w.heap.size, 0, none⟩) m ys := by
  subst hm hc
  exact fresh_reads w ys hl

set_option maxHeartbeats 4000000 in
set_option maxRecDepth 100000 in
theorem two (l0 : List Int) (v : Value) (r : Int) (w0 w : World) (hB : Below w0.heap.size w0 w) (ho : w.ownsRow w0.heap.size 5 1 v l0.length (nums .u8 l0)) (hlen0 : l0.length + 4 ≤ 140737488355328) (h0 : 128 ≤ r) (h1 : r ≤ 2047) :
    Calls Tryd.prog 44 #[v, .int .i32 r] w (Post l0 [192 + r / 64, 128 + r % 64] v w0 w) := by
  have HB := Aside0.mk hB; have HO := Aside0.mk ho; have hlen := Aside0.mk hlen0; clear hB ho hlen0
  go_enter Tryd.func44, Tryd.ntmps44
  go_wp2_with (at_builtin; refine print_append_row (w0 := w0) w0.heap.size rfl _ _ 22 5 .u8 1 rfl Tryd.underlying22 info5 (by decide) v l0 [192 + r / 64, 128 + r % 64] (some ⟨w.heap.size, 0, none⟩) 2 2 rfl rfl (HO.out.alloc _) ?c1 ?c2 ?c3 ?c4 ?_)
  case c1 => exact fresh_reads' w _ _ _ (by simp) rfl rfl
  case c2 => exact HB.out.alloc HB.out.size _
  case c3 => have := HB.out.size; simp; omega
  case c4 => have := hlen.out; simp; omega
  intro v' w2 hown hb hg hat
  have Hown := Aside0.mk hown; have Hb := Aside0.mk hb; have Hg := Aside0.mk hg; have Hat := Aside0.mk hat; clear hown hb hg hat
  go_wp2
  go_ret
  exact ⟨v', rfl, by have := Hown.out; simpa using this, Hb.out, ⟨_, Hg.out⟩, Hat.out.imp id (fun ⟨b, h1, h2⟩ => ⟨b, h1, by first | omega | (simp at h2; omega)⟩)⟩
set_option maxHeartbeats 4000000 in
set_option maxRecDepth 100000 in
theorem three_lo (l0 : List Int) (v : Value) (r : Int) (w0 w : World) (hB : Below w0.heap.size w0 w) (ho : w.ownsRow w0.heap.size 5 1 v l0.length (nums .u8 l0)) (hlen0 : l0.length + 4 ≤ 140737488355328) (h0 : 2048 ≤ r) (h1 : r < 55296) :
    Calls Tryd.prog 44 #[v, .int .i32 r] w (Post l0 [224 + r / 4096, 128 + r / 64 % 64, 128 + r % 64] v w0 w) := by
  have HB := Aside0.mk hB; have HO := Aside0.mk ho; have hlen := Aside0.mk hlen0; clear hB ho hlen0
  go_enter Tryd.func44, Tryd.ntmps44
  go_wp2_with (at_builtin; refine print_append_row (w0 := w0) w0.heap.size rfl _ _ 22 5 .u8 1 rfl Tryd.underlying22 info5 (by decide) v l0 [224 + r / 4096, 128 + r / 64 % 64, 128 + r % 64] (some ⟨w.heap.size, 0, none⟩) 3 3 rfl rfl (HO.out.alloc _) ?c1 ?c2 ?c3 ?c4 ?_)
  case c1 => exact fresh_reads' w _ _ _ (by simp) rfl rfl
  case c2 => exact HB.out.alloc HB.out.size _
  case c3 => have := HB.out.size; simp; omega
  case c4 => have := hlen.out; simp; omega
  intro v' w2 hown hb hg hat
  have Hown := Aside0.mk hown; have Hb := Aside0.mk hb; have Hg := Aside0.mk hg; have Hat := Aside0.mk hat; clear hown hb hg hat
  go_wp2
  go_ret
  exact ⟨v', rfl, by have := Hown.out; simpa using this, Hb.out, ⟨_, Hg.out⟩, Hat.out.imp id (fun ⟨b, h1, h2⟩ => ⟨b, h1, by first | omega | (simp at h2; omega)⟩)⟩
set_option maxHeartbeats 4000000 in
set_option maxRecDepth 100000 in
theorem three_hi (l0 : List Int) (v : Value) (r : Int) (w0 w : World) (hB : Below w0.heap.size w0 w) (ho : w.ownsRow w0.heap.size 5 1 v l0.length (nums .u8 l0)) (hlen0 : l0.length + 4 ≤ 140737488355328) (h0 : 57343 < r) (h1 : r ≤ 65535) :
    Calls Tryd.prog 44 #[v, .int .i32 r] w (Post l0 [224 + r / 4096, 128 + r / 64 % 64, 128 + r % 64] v w0 w) := by
  have HB := Aside0.mk hB; have HO := Aside0.mk ho; have hlen := Aside0.mk hlen0; clear hB ho hlen0
  go_enter Tryd.func44, Tryd.ntmps44
  go_wp2_with (at_builtin; refine print_append_row (w0 := w0) w0.heap.size rfl _ _ 22 5 .u8 1 rfl Tryd.underlying22 info5 (by decide) v l0 [224 + r / 4096, 128 + r / 64 % 64, 128 + r % 64] (some ⟨w.heap.size, 0, none⟩) 3 3 rfl rfl (HO.out.alloc _) ?c1 ?c2 ?c3 ?c4 ?_)
  case c1 => exact fresh_reads' w _ _ _ (by simp) rfl rfl
  case c2 => exact HB.out.alloc HB.out.size _
  case c3 => have := HB.out.size; simp; omega
  case c4 => have := hlen.out; simp; omega
  intro v' w2 hown hb hg hat
  have Hown := Aside0.mk hown; have Hb := Aside0.mk hb; have Hg := Aside0.mk hg; have Hat := Aside0.mk hat; clear hown hb hg hat
  go_wp2
  go_ret
  exact ⟨v', rfl, by have := Hown.out; simpa using this, Hb.out, ⟨_, Hg.out⟩, Hat.out.imp id (fun ⟨b, h1, h2⟩ => ⟨b, h1, by first | omega | (simp at h2; omega)⟩)⟩
set_option maxHeartbeats 4000000 in
set_option maxRecDepth 100000 in
theorem four (l0 : List Int) (v : Value) (r : Int) (w0 w : World) (hB : Below w0.heap.size w0 w) (ho : w.ownsRow w0.heap.size 5 1 v l0.length (nums .u8 l0)) (hlen0 : l0.length + 4 ≤ 140737488355328) (h0 : 65536 ≤ r) (h1 : r ≤ 1114111) :
    Calls Tryd.prog 44 #[v, .int .i32 r] w (Post l0 [240 + r / 262144, 128 + r / 4096 % 64, 128 + r / 64 % 64, 128 + r % 64] v w0 w) := by
  have HB := Aside0.mk hB; have HO := Aside0.mk ho; have hlen := Aside0.mk hlen0; clear hB ho hlen0
  go_enter Tryd.func44, Tryd.ntmps44
  go_wp2_with (at_builtin; refine print_append_row (w0 := w0) w0.heap.size rfl _ _ 22 5 .u8 1 rfl Tryd.underlying22 info5 (by decide) v l0 [240 + r / 262144, 128 + r / 4096 % 64, 128 + r / 64 % 64, 128 + r % 64] (some ⟨w.heap.size, 0, none⟩) 4 4 rfl rfl (HO.out.alloc _) ?c1 ?c2 ?c3 ?c4 ?_)
  case c1 => exact fresh_reads' w _ _ _ (by simp) rfl rfl
  case c2 => exact HB.out.alloc HB.out.size _
  case c3 => have := HB.out.size; simp; omega
  case c4 => have := hlen.out; simp; omega
  intro v' w2 hown hb hg hat
  have Hown := Aside0.mk hown; have Hb := Aside0.mk hb; have Hg := Aside0.mk hg; have Hat := Aside0.mk hat; clear hown hb hg hat
  go_wp2
  go_ret
  exact ⟨v', rfl, by have := Hown.out; simpa using this, Hb.out, ⟨_, Hg.out⟩, Hat.out.imp id (fun ⟨b, h1, h2⟩ => ⟨b, h1, by first | omega | (simp at h2; omega)⟩)⟩
set_option maxHeartbeats 4000000 in
set_option maxRecDepth 100000 in
theorem bad_neg (l0 : List Int) (v : Value) (r : Int) (w0 w : World) (hB : Below w0.heap.size w0 w) (ho : w.ownsRow w0.heap.size 5 1 v l0.length (nums .u8 l0)) (hlen0 : l0.length + 4 ≤ 140737488355328) (h0 : -2147483648 ≤ r) (h1 : r < 0) :
    Calls Tryd.prog 44 #[v, .int .i32 r] w (Post l0 [239, 191, 189] v w0 w) := by
  have HB := Aside0.mk hB; have HO := Aside0.mk ho; have hlen := Aside0.mk hlen0; clear hB ho hlen0
  go_enter Tryd.func44, Tryd.ntmps44
  go_wp2_with (at_builtin; refine print_append_row (w0 := w0) w0.heap.size rfl _ _ 22 5 .u8 1 rfl Tryd.underlying22 info5 (by decide) v l0 [239, 191, 189] (some ⟨w.heap.size, 0, none⟩) 3 3 rfl rfl (HO.out.alloc _) ?c1 ?c2 ?c3 ?c4 ?_)
  case c1 => exact fresh_reads' w _ _ _ (by simp) rfl rfl
  case c2 => exact HB.out.alloc HB.out.size _
  case c3 => have := HB.out.size; simp; omega
  case c4 => have := hlen.out; simp; omega
  intro v' w2 hown hb hg hat
  have Hown := Aside0.mk hown; have Hb := Aside0.mk hb; have Hg := Aside0.mk hg; have Hat := Aside0.mk hat; clear hown hb hg hat
  go_wp2
  go_ret
  exact ⟨v', rfl, by have := Hown.out; simpa using this, Hb.out, ⟨_, Hg.out⟩, Hat.out.imp id (fun ⟨b, h1, h2⟩ => ⟨b, h1, by first | omega | (simp at h2; omega)⟩)⟩
set_option maxHeartbeats 4000000 in
set_option maxRecDepth 100000 in
theorem bad_sur (l0 : List Int) (v : Value) (r : Int) (w0 w : World) (hB : Below w0.heap.size w0 w) (ho : w.ownsRow w0.heap.size 5 1 v l0.length (nums .u8 l0)) (hlen0 : l0.length + 4 ≤ 140737488355328) (h0 : 55296 ≤ r) (h1 : r ≤ 57343) :
    Calls Tryd.prog 44 #[v, .int .i32 r] w (Post l0 [239, 191, 189] v w0 w) := by
  have HB := Aside0.mk hB; have HO := Aside0.mk ho; have hlen := Aside0.mk hlen0; clear hB ho hlen0
  go_enter Tryd.func44, Tryd.ntmps44
  go_wp2_with (at_builtin; refine print_append_row (w0 := w0) w0.heap.size rfl _ _ 22 5 .u8 1 rfl Tryd.underlying22 info5 (by decide) v l0 [239, 191, 189] (some ⟨w.heap.size, 0, none⟩) 3 3 rfl rfl (HO.out.alloc _) ?c1 ?c2 ?c3 ?c4 ?_)
  case c1 => exact fresh_reads' w _ _ _ (by simp) rfl rfl
  case c2 => exact HB.out.alloc HB.out.size _
  case c3 => have := HB.out.size; simp; omega
  case c4 => have := hlen.out; simp; omega
  intro v' w2 hown hb hg hat
  have Hown := Aside0.mk hown; have Hb := Aside0.mk hb; have Hg := Aside0.mk hg; have Hat := Aside0.mk hat; clear hown hb hg hat
  go_wp2
  go_ret
  exact ⟨v', rfl, by have := Hown.out; simpa using this, Hb.out, ⟨_, Hg.out⟩, Hat.out.imp id (fun ⟨b, h1, h2⟩ => ⟨b, h1, by first | omega | (simp at h2; omega)⟩)⟩
set_option maxHeartbeats 4000000 in
set_option maxRecDepth 100000 in
theorem bad_big (l0 : List Int) (v : Value) (r : Int) (w0 w : World) (hB : Below w0.heap.size w0 w) (ho : w.ownsRow w0.heap.size 5 1 v l0.length (nums .u8 l0)) (hlen0 : l0.length + 4 ≤ 140737488355328) (h0 : 1114111 < r) (h1 : r ≤ 2147483647) :
    Calls Tryd.prog 44 #[v, .int .i32 r] w (Post l0 [239, 191, 189] v w0 w) := by
  have HB := Aside0.mk hB; have HO := Aside0.mk ho; have hlen := Aside0.mk hlen0; clear hB ho hlen0
  go_enter Tryd.func44, Tryd.ntmps44
  go_wp2_with (at_builtin; refine print_append_row (w0 := w0) w0.heap.size rfl _ _ 22 5 .u8 1 rfl Tryd.underlying22 info5 (by decide) v l0 [239, 191, 189] (some ⟨w.heap.size, 0, none⟩) 3 3 rfl rfl (HO.out.alloc _) ?c1 ?c2 ?c3 ?c4 ?_)
  case c1 => exact fresh_reads' w _ _ _ (by simp) rfl rfl
  case c2 => exact HB.out.alloc HB.out.size _
  case c3 => have := HB.out.size; simp; omega
  case c4 => have := hlen.out; simp; omega
  intro v' w2 hown hb hg hat
  have Hown := Aside0.mk hown; have Hb := Aside0.mk hb; have Hg := Aside0.mk hg; have Hat := Aside0.mk hat; clear hown hb hg hat
  go_wp2
  go_ret
  exact ⟨v', rfl, by have := Hown.out; simpa using this, Hb.out, ⟨_, Hg.out⟩, Hat.out.imp id (fun ⟨b, h1, h2⟩ => ⟨b, h1, by first | omega | (simp at h2; omega)⟩)⟩
set_option maxHeartbeats 4000000 in
set_option maxRecDepth 100000 in
theorem ascii (l0 : List Int) (v : Value) (r : Int) (w0 w : World) (hB : Below w0.heap.size w0 w) (ho : w.ownsRow w0.heap.size 5 1 v l0.length (nums .u8 l0)) (hlen0 : l0.length + 4 ≤ 140737488355328) (h0 : 0 ≤ r) (h1 : r ≤ 127) :
    Calls Tryd.prog 38 #[v, .int .i32 r] w (Post l0 [r] v w0 w) := by
  have HB := Aside0.mk hB; have HO := Aside0.mk ho; have hlen := Aside0.mk hlen0; clear hB ho hlen0
  go_enter Tryd.func38, Tryd.ntmps38
  go_wp2_with (at_builtin; refine print_append_row (w0 := w0) w0.heap.size rfl _ _ 22 5 .u8 1 rfl Tryd.underlying22 info5 (by decide) v l0 [r] (some ⟨w.heap.size, 0, none⟩) 1 1 rfl rfl (HO.out.alloc _) ?c1 ?c2 ?c3 ?c4 ?_)
  case c1 => exact fresh_reads' w _ _ _ (by simp) rfl rfl
  case c2 => exact HB.out.alloc HB.out.size _
  case c3 => have := HB.out.size; simp; omega
  case c4 => have := hlen.out; simp; omega
  intro v' w2 hown hb hg hat
  have Hown := Aside0.mk hown; have Hb := Aside0.mk hb; have Hg := Aside0.mk hg; have Hat := Aside0.mk hat; clear hown hb hg hat
  go_wp2
  go_ret
  exact ⟨v', rfl, by have := Hown.out; simpa using this, Hb.out, ⟨_, Hg.out⟩, Hat.out.imp id (fun ⟨b, h1, h2⟩ => ⟨b, h1, by first | omega | (simp at h2; omega)⟩)⟩
theorem nonascii (l0 : List Int) (v : Value) (r : Int) (w0 w : World) (hB : Below w0.heap.size w0 w) (ho : w.ownsRow w0.heap.size 5 1 v l0.length (nums .u8 l0)) (hlen0 : l0.length + 4 ≤ 140737488355328) (hr0 : -2147483648 ≤ r) (hr1 : r ≤ 2147483647) (hna : r < 0 ∨ 128 ≤ r) :
    Calls Tryd.prog 44 #[v, .int .i32 r] w (Post l0 (Lib.encodeRuneZ r) v w0 w) := by
  by_cases c0 : r < 0
  · rw [Lib.encodeRuneZ_bad (Or.inl c0)]
    exact bad_neg l0 v r w0 w hB ho hlen0 hr0 c0
  by_cases c1 : r ≤ 2047
  · rw [Lib.encodeRuneZ_two (by omega) c1]
    exact two l0 v r w0 w hB ho hlen0 (by omega) c1
  by_cases c2 : r < 55296
  · rw [Lib.encodeRuneZ_three (Or.inl ⟨by omega, c2⟩)]
    exact three_lo l0 v r w0 w hB ho hlen0 (by omega) c2
  by_cases c3 : r ≤ 57343
  · rw [Lib.encodeRuneZ_bad (Or.inr (Or.inl ⟨by omega, c3⟩))]
    exact bad_sur l0 v r w0 w hB ho hlen0 (by omega) c3
  by_cases c4 : r ≤ 65535
  · rw [Lib.encodeRuneZ_three (Or.inr ⟨by omega, c4⟩)]
    exact three_hi l0 v r w0 w hB ho hlen0 (by omega) c4
  by_cases c5 : r ≤ 1114111
  · rw [Lib.encodeRuneZ_four (by omega) c5]
    exact four l0 v r w0 w hB ho hlen0 (by omega) c5
  · rw [Lib.encodeRuneZ_bad (r := r) (Or.inr (Or.inr (by omega)))]
    exact bad_big l0 v r w0 w hB ho hlen0 (by omega) hr1
set_option maxHeartbeats 4000000 in
set_option maxRecDepth 100000 in
theorem other (l0 : List Int) (v : Value) (r : Int) (w0 w : World) (hB : Below w0.heap.size w0 w) (ho : w.ownsRow w0.heap.size 5 1 v l0.length (nums .u8 l0)) (hlen0 : l0.length + 4 ≤ 140737488355328) (hr0 : -2147483648 ≤ r) (hr1 : r ≤ 2147483647) (hna : r < 0 ∨ 128 ≤ r) :
    Calls Tryd.prog 38 #[v, .int .i32 r] w (Post l0 (Lib.encodeRuneZ r) v w0 w) := by
  have hc := Aside0.mk (nonascii l0 v r w0 w hB ho hlen0 hr0 hr1 hna)
  clear hB ho hlen0
  rcases hna with hna | hna
  all_goals
    go_enter Tryd.func38, Tryd.ntmps38
    go_wp2_with (go_at_call 44; refine hc.out.mono ?_; rintro e w1 ⟨v', rfl, hp⟩; have HP := Aside0.mk hp; clear hp)
    go_ret
    exact ⟨_, rfl, HP.out⟩
/-- The contract, in the printer's words. -/
theorem calls (P0_ : Nat → Prop) (u9000_ : Value) (l0 : List Int) (a1 : Int) (w0 w : World) (hB : Below w0.heap.size w0 w) (ho0 : Kd.R (Kd.int .u8) 5 w w0.heap.size P0_ u9000_ l0) (hr0 : -2147483648 ≤ a1) (hr1 : a1 ≤ 2147483647) (hlen0 : l0.length + 4 ≤ 140737488355328) :
    Calls Tryd.prog 38 #[u9000_, .int .i32 a1] w fun e w' => ∃ v0_ : Value, e = .returned (v0_) ∧ Kd.R (Kd.int .u8) 5 w' w0.heap.size (fun k_ => (P0_ k_ ∨ w.heap.size ≤ k_)) v0_ (l0 ++ Lib.encodeRuneZ a1) ∧ Below w0.heap.size w0 w' ∧ Kept w w' (fun k_ => P0_ k_) := by
  have ho : w.ownsRow w0.heap.size 5 1 u9000_ l0.length (nums .u8 l0) := Kd.own_of_R ho0
  have hc : Calls Tryd.prog 38 #[u9000_, .int .i32 a1] w (Post l0 (Lib.encodeRuneZ a1) u9000_ w0 w) := by
    by_cases c : 0 ≤ a1 ∧ a1 ≤ 127
    · rw [Lib.encodeRuneZ_one c.1 c.2]
      exact ascii l0 u9000_ a1 w0 w hB ho hlen0 c.1 c.2
    · exact other l0 u9000_ a1 w0 w hB ho hlen0 hr0 hr1 (by omega)
  refine hc.mono ?_
  rintro e w' ⟨v', rfl, h1, h2, ⟨o, h3⟩, h4⟩
  refine ⟨v', rfl, Kd.R_of_own h1 (fun k hk => ?_), h2, ?_⟩
  · rcases h4 with h4 | ⟨b, h4, h5⟩
    · exact .inl (ho0.1 k (h4.symm.trans hk))
    · rw [h4] at hk
      cases hk
      exact .inr h5
  · exact Kept.of_grown h3 (Kept.alloc (Kept.refl w _) o) (fun k hk => .inl (ho0.1 k hk))
end Go.Proofs.YtflfkbnolehpgaaDoor.AR
