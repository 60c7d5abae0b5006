/-
  (*frame.Decoder).Feed: its contract.
-/
import Derived.Test.YtomebmjjgkcjiaaGreatDoorFrameNext
import Derived.Lib.BufferMore
import Derived.Test.YtomebmjjgkcjiaaGreatDoorWFootNe
set_option linter.unusedVariables false
namespace Go.Proofs.YtomebmjjgkcjiaaGreatDoor.G
open Go.RowKit Go.Proofs.YtomebmjjgkcjiaaGreatDoorW.PrintWords Go.Lib
theorem info22 : (Tryz.prog.info? 27).map (fun i => (i.zero, i.size, i.bytes)) = some (some (.slice none 0 0), 1, 24) := by kernel_rfl
/-- Bodies off what is held: the bodies, what is held then, the error. -/
def runL : Nat → List UInt8 → List (List UInt8) × List UInt8 × Int
  | 0, r => ([], r, 0)
  | f + 1, r => match nextL r with
    | (none, _, e) => if e ≠ 0 then ([], [], e) else ([], r, 0)
    | (some b, q, _) => (b :: (runL f q).1, (runL f q).2.1, (runL f q).2.2)
theorem nextL_shorter {r b q : List UInt8} {z : Int} (h : nextL r = (some b, q, z)) : q.length < r.length ∧ z = 0 := by
  have hr := headOf_range r
  unfold nextL at h
  split at h
  · cases h
  · rename_i c1
    split at h
    · cases h
    · simp only [Prod.mk.injEq, Option.some.injEq] at h
      obtain ⟨_, rfl, rfl⟩ := h
      have : ¬ (headOf r).1 = 0 := fun e => c1 (.inl e)
      rw [List.length_drop]
      exact ⟨by omega, rfl⟩
theorem runL_fuel : ∀ (n m : Nat) (r : List UInt8), r.length < n → r.length < m → runL n r = runL m r
  | 0, _, _, h, _ => absurd h (Nat.not_lt_zero _)
  | _ + 1, 0, _, _, h => absurd h (Nat.not_lt_zero _)
  | n + 1, m + 1, r, h1, h2 => by
    simp only [runL]
    cases hn : nextL r with
    | mk o p =>
      obtain ⟨q, z⟩ := p
      cases o with
      | none => rfl
      | some b =>
        have := (nextL_shorter hn).1
        simp only
        rw [runL_fuel n m q (by omega) (by omega)]
def feedL (r : List UInt8) : List (List UInt8) × List UInt8 × Int := runL (r.length + 1) r
theorem feedL_none {r q : List UInt8} {e : Int} (h : nextL r = (none, q, e)) : feedL r = if e ≠ 0 then ([], [], e) else ([], r, 0) := by
  simp only [feedL, runL, h]
theorem feedL_some {r b q : List UInt8} {z : Int} (h : nextL r = (some b, q, z)) : feedL r = (b :: (feedL q).1, (feedL q).2.1, (feedL q).2.2) := by
  have hs := (nextL_shorter h).1
  have e : runL r.length q = feedL q := runL_fuel _ _ _ (by omega) (by omega)
  simp only [feedL, runL, h]
  rw [e]
  rfl
theorem C_grown {W W1 : World} {row : Option Nat} (hg : W.grownBy W1 row) {A : Option Addr} {n : Nat} {l : List Int} (h : Kd.C (Kd.int .u8) W A n l) (hf : ∀ ad, A = some ad → some ad.block ≠ row) : Kd.C (Kd.int .u8) W1 A n l := by
  cases row with
  | none => exact Kd.C_keep (0 : Int) (g := W.heap.size) h ⟨hg.size, fun i hi _ _ => hg.block i hi (by simp)⟩ (fun ad e hn => by
      subst e
      have := Kd.C_lt h hn (by decide)
      omega)
  | some o => exact Kd.C_keep (0 : Int) (g := o) h ⟨hg.size, fun i hi hio _ => hg.block i hi (by simpa using hio)⟩ (fun ad e hn => by
      have := hf ad e
      simpa using this)
theorem DecAt.grown {w w' : World} {d : Nat} {rest : List UInt8} {e : Int} {A : Option Addr} {c : Nat} {row : Option Nat} (h : DecAt w d rest e A c) (hg : w.grownBy w' row) (hd : some d ≠ row) (hA : ∀ a, A = some a → some a.block ≠ row) : DecAt w' d rest e A c :=
  ⟨(hg.block d h.lt hd).trans h.blk, C_grown hg h.row hA, h.cap, h.top, h.apart⟩
abbrev OwnRows (w : World) (base : Nat) (v : Value) (l : List (List Int)) : Prop := Kd.R (Kd.slice 5 (Kd.int .u8)) 27 w base (fun _ => True) v l
theorem Concat_ints (g : Nat) (A0 A1 : Option Addr) (c0 c1 : Nat) (l0 l1 : List UInt8) (w : World) (h0 : w.cell? ⟨g, 0, none⟩ = some (.slice A0 l0.length c0)) (h1 : w.cell? ⟨g, 1, none⟩ = some (.slice A1 l1.length c1))
    (hC0 : Kd.C (Kd.int .u8) w A0 l0.length (ints l0)) (hC1 : Kd.C (Kd.int .u8) w A1 l1.length (ints l1)) (hl : l0.length + l1.length ≤ 17592186044416) :
    Calls Tryz.prog 16 #[.slice (some ⟨g, 0, none⟩) 2 2] w fun e w' => ∃ A c, e = .returned (.slice A (l0 ++ l1).length c) ∧ OwnB w' w.heap.size (.slice A (l0 ++ l1).length c) (ints (l0 ++ l1)) ∧ (l0 ++ l1).length ≤ c ∧ c ≤ 9223372036854775807 ∧ Kd.C (Kd.int .u8) w' A (l0 ++ l1).length (ints (l0 ++ l1)) ∧ (∀ a, A = some a → w.heap.size ≤ a.block ∧ a.block < w'.heap.size) ∧ Below w.heap.size w w' := by
  refine (Concat_calls g A0 A1 c0 c1 (ints l0) (ints l1) w (by rw [ints_length]; exact h0) (by rw [ints_length]; exact h1) (by rw [ints_length]; exact hC0) (by rw [ints_length]; exact hC1) (by rw [ints_length, ints_length]; exact hl)).mono ?_
  rintro e w' ⟨v, rfl, hr, hb⟩
  rw [← ints_append] at hr
  obtain ⟨A, c, rfl, hlc, hC⟩ := Kd.R_reads hr
  have hown := Kd.own_of_R hr
  rw [ints_length] at hlc hC hown ⊢
  rw [ints_length] at hr
  refine ⟨A, c, rfl, hr, hlc, ?_, hC, ?_, hb⟩
  · rcases hown.2 with ⟨h, _⟩ | ⟨g', cap, cur, h, _, _, _, hm, _⟩
    · simp only [Value.slice.injEq] at h; omega
    · simp only [Value.slice.injEq] at h
      unfold maxLen at hm
      omega
  · rintro a rfl
    exact ⟨own_base hown _ rfl, own_lt hown _ rfl⟩
set_option maxHeartbeats 4000000 in
set_option maxRecDepth 100000 in
theorem Feed_dead (d : Nat) (rest : List UInt8) (e : Int) (A : Option Addr) (c : Nat) (v : Value) (w : World) (hD : DecAt w d rest e A c) (he : e ≠ 0) :
    Calls Tryz.prog 8 #[.pointer (some ⟨d, 0, none⟩), v] w fun e' w' => e' = .returned (.tuple #[.slice none 0 0, .int .i64 e]) ∧ Below w.heap.size w w' := by
  have h1 := hD.cell1
  have hb : (e != 0) = true := by simpa using he
  go_enter Tryz.func8, Tryz.ntmps8
  go_wp2_with (fail)
  go_quiet (fail)
  go_wp2_with (fail)
  go_ret2
  exact ⟨rfl, pw_below_drewN (Below.refl _ _) nq⟩
set_option maxHeartbeats 4000000 in
set_option maxRecDepth 100000 in
theorem Feed_calls (d : Nat) (rest s : List UInt8) (A B : Option Addr) (c cb : Nat) (w0 w : World) (hT : TF w0) (hB : Below w0.heap.size w0 w) (hd0 : w0.heap.size ≤ d) (hD : DecAt w d rest 0 A c) (hC : Kd.C (Kd.int .u8) w B s.length (ints s)) (hcb : s.length ≤ cb) (hl : rest.length + s.length < 4294967281) :
    Calls Tryz.prog 8 #[.pointer (some ⟨d, 0, none⟩), .slice B s.length cb] w fun e w' => ∃ v A' c', e = .returned (.tuple #[v, .int .i64 (feedL (rest ++ s)).2.2]) ∧ OwnRows w' w.heap.size v ((feedL (rest ++ s)).1.map ints) ∧ DecAt w' d (feedL (rest ++ s)).2.1 (feedL (rest ++ s)).2.2 A' c' ∧ (∀ a, A' = some a → w.heap.size ≤ a.block) ∧ KeepX (fun i => i = d) w w' := by
  have h0 := hD.cell0
  have h1 := hD.cell1
  have hlt := hD.lt
  have HC := Aside0.mk (And.intro hD.row hC)
  have HD := Aside0.mk hD
  have HTB := Aside0.mk (And.intro hT hB)
  have hfr : w.frozen? ⟨d, 0, none⟩ = false := frozenB hD.blk 0
  clear hD hC hT hB
  go_enter Tryz.func8, Tryz.ntmps8
  go_wp2_with (go_at_call 16; refine (Concat_ints w.heap.size A B c cb rest s _ (World.cell?_alloc_mark w _ _ _ 0) (World.cell?_alloc_mark w _ _ _ 1) (Kd.C_below HC.out.1 (below_alloc (Below.refl _ _) _)) (Kd.C_below HC.out.2 (below_alloc (Below.refl _ _) _)) (by omega)).mono ?_; rintro e w1 ⟨A1, c1, rfl, hr, hlc, hc9, hC1, hab, hb⟩; have H1 := Aside0.mk (And.intro hlc (And.intro hc9 (And.intro hC1 hab))); have HB1 := Aside0.mk (show Below w.heap.size w w1 from below_step (below_alloc (Below.refl _ _) _) hb); have h01 := (HB1.out.cell (World.block_lt_of_cell? w _ h0)).trans h0; have hfr1 := (HB1.out.frozen (World.block_lt_of_cell? w _ h0)).trans hfr; clear hr hlc hc9 hC1 hab hb)
  have hblk1 : w1.heap[d]? = some (.cells #[.slice A rest.length c, .int .i64 0] 42 (0, 0)) := (HB1.out.block d hlt).trans HD.out.blk
  obtain ⟨q1, q2, q3, q4⟩ := H1.out
  rw [World.size_alloc] at q4
  have HD1 := Aside0.mk (show DecAt (w1.setCell ⟨d, 0, none⟩ (.slice A1 (rest.length + s.length) c1)) d (rest ++ s) 0 A1 c1 from by
    refine ⟨?_, ?_, q1, q2, fun a e => by have := (q4 a e).1; omega⟩
    · have := blk_set hblk1 0 (.slice A1 (rest.length + s.length) c1)
      rw [this, List.length_append]
      rfl
    · exact Kd.C_keep (0 : Int) q3 ((KeepBut.refl w1 d none).set_ 0 _) (fun ad e _ => by have := (q4 ad e).1; omega))
  have HK1 := Aside0.mk (show KeepX (fun i => i = d) w (w1.setCell ⟨d, 0, none⟩ (.slice A1 (rest.length + s.length) c1)) from (KeepX.of_below HB1.out).trans (KeepX.setCell (X := fun i => i = d) w1 rfl _))
  have hsz1 : (w1.setCell ⟨d, 0, none⟩ (.slice A1 (rest.length + s.length) c1)).heap.size = w1.heap.size := by simp [World.setCell]
  have HAB := Aside0.mk (show ∀ a, A1 = some a → w.heap.size ≤ a.block ∧ a.block < w1.heap.size from fun a e => ⟨by have := (q4 a e).1; omega, (q4 a e).2⟩)
  have hw1 : w.heap.size ≤ w1.heap.size := HB1.out.size
  have Hl := Aside0.mk (And.intro hl hlt)
  have Hd0 := Aside0.mk (And.intro hd0 hw1)
  clear q1 q2 q3 q4 hblk1 h01 hfr1 H1 HB1 h0 h1 hfr HD HC hlt hl hcb
  obtain ⟨W1, hW1⟩ : ∃ W1, w1.setCell ⟨d, 0, none⟩ (.slice A1 (rest.length + s.length) c1) = W1 := ⟨_, rfl⟩
  rw [hW1] at HD1 HK1 hsz1 ⊢
  have Hsz := Aside0.mk hsz1
  clear hW1 hsz1 hw1 hd0
  obtain ⟨N, hN⟩ : ∃ N, (rest ++ s).length = N := ⟨_, rfl⟩
  have HNl := Aside0.mk (show N < 4294967281 by rw [← hN, List.length_append]; exact Hl.out.1)
  have HNN := Aside0.mk hN
  clear hN
  have heq0 := fun (W : World) => run_eql_slice_nil_nil (P := Tryz.prog) W 0 0 Tryz.underlying27
  have heq1 := fun (W : World) (a : Addr) (n c : Nat) => run_eql_slice_some_nil (P := Tryz.prog) W a n c Tryz.underlying27
  go_loopg [6, 7, 8] (N + 1) (fun gk v6 _ _ wx => ∃ (done : List (List UInt8)) (r : List UInt8) (A' : Option Addr) (c' : Nat), Aside0 (feedL (rest ++ s) = (done ++ (feedL r).1, (feedL r).2.1, (feedL r).2.2)) ∧ Aside0 (OwnRows wx w1.heap.size v6 (done.map ints)) ∧ Aside0 (DecAt wx d r 0 A' c') ∧ Aside0 (∀ a, A' = some a → w.heap.size ≤ a.block ∧ a.block < w1.heap.size) ∧ Aside0 (KeepX (fun i => i = d) w wx ∧ w1.heap.size ≤ wx.heap.size) ∧ Aside0 (r.length < gk ∧ done.length + r.length ≤ N))
  case atStart => exact ⟨[], rest ++ s, A1, c1, ⟨rfl⟩, ⟨Kd.R_nil _ _ _ _ _⟩, HD1, HAB, ⟨HK1.out, by have := Hsz.out; omega⟩, ⟨by have := HNN.out; omega, by have := HNN.out; simp; simp at this; omega⟩⟩
  case round =>
    obtain ⟨done, r, A', c', HF, HO, HDr, HA, HK, HM⟩ := hrel
    have htf : TF wr := by
      refine TF_below HTB.out.1 (HTB.out.2.trans (HK.out.1.below HTB.out.2.size (fun k hk e => ?_)))
      have := Hd0.out.1
      omega
    cases hn : nextL r with
    | mk o p =>
      obtain ⟨q, z⟩ := p
      cases o with
      | none =>
        have hnn := next_none d r A' c' wr htf HDr.out (by have := HNl.out; have := HM.out.2; omega) (by rw [hn])
        rw [hn] at hnn
        have HN := Aside0.mk hnn
        have hfd := feedL_none hn
        have HFD := Aside0.mk hfd
        clear hnn htf hn hfd
        by_cases hz : z = 0
        · subst hz
          go_wp2_with (go_at_call 17; refine HN.out.mono ?_; rintro e w3 ⟨rfl, hb⟩; have HB3 := Aside0.mk hb; clear hb)
          go_ret2
          have hfd := HFD.out
          rw [if_neg (by simp)] at hfd
          have hff := HF.out
          rw [hfd, List.append_nil] at hff
          rw [hff]
          refine ⟨_, A', c', rfl, ?_, HDr.out.below HB3.out, fun a e => (HA.out a e).1, HK.out.1.trans (KeepX.of_below HB3.out)⟩
          exact Kd.R_lower (Kd.R_below HO.out HB3.out) Hd0.out.2
        · have hzb : (z != 0) = true := by simpa using hz
          have hc0 := HDr.out.cell0
          have hc1 := HDr.out.cell1
          have hf0 : wr.frozen? ⟨d, 0, none⟩ = false := frozenB HDr.out.blk 0
          have hf1 : wr.frozen? ⟨d, 1, none⟩ = false := frozenB HDr.out.blk 1
          go_wp2_with (go_at_call 17; refine HN.out.mono ?_; rintro e w3 ⟨rfl, hb⟩; have HB3 := Aside0.mk hb; have i0 := (hb.cell (World.block_lt_of_cell? wr _ hc0)).trans hc0; have i1 := (hb.cell (World.block_lt_of_cell? wr _ hc1)).trans hc1; have j0 := (hb.frozen (World.block_lt_of_cell? wr _ hc0)).trans hf0; have j1 := (hb.frozen (World.block_lt_of_cell? wr _ hc1)).trans hf1; clear hb)
          go_ret2
          have hfd := HFD.out
          rw [if_pos hz] at hfd
          have hff := HF.out
          rw [hfd, List.append_nil] at hff
          rw [hff]
          have hb3 : w3.heap[d]? = some (.cells #[.slice A' r.length c', .int .i64 0] 42 (0, 0)) := (HB3.out.block d HDr.out.lt).trans HDr.out.blk
          have hs1 := blk_set hb3 1 (.int .i64 z)
          have hs2 := blk_set hs1 0 (.slice none 0 0)
          refine ⟨_, none, 0, rfl, ?_, ⟨?_, Kd.C_nil _ _, Nat.le_refl _, by decide, (fun a e => nomatch e)⟩, (fun a e => nomatch e), ?_⟩
          · have hR := Kd.R_lower (Kd.R_below HO.out HB3.out) Hd0.out.2
            have hl := Hl.out.2
            exact Kd.R_mono (Kd.R_far (p := ⟨d, 0, none⟩) (Kd.R_far (p := ⟨d, 1, none⟩) (Kd.R_bound hR) (fun i hi => by have := hi.2.1; show i ≠ d; omega) (.int .i64 z)) (fun i hi => by have := hi.2.1; show i ≠ d; omega) (.slice none 0 0)) (fun _ h => h.1)
          · rw [hs2]; rfl
          · have hk1 : KeepX (fun i => i = d) w3 (w3.setCell ⟨d, 1, none⟩ (.int .i64 z)) := by
              have h := (Below.refl 0 w3).setCell (p := ⟨d, 1, none⟩) (Nat.zero_le _) (.int .i64 z)
              exact ⟨h.os, h.tape, h.output, h.size, fun k _ hx => Below.heap_setCell w3 ⟨d, 1, none⟩ _ k hx⟩
            exact (HK.out.1.trans (KeepX.of_below HB3.out)).trans (hk1.trans (KeepX.setCell (X := fun i => i = d) _ rfl _))
      | some b =>
        have hz := (nextL_shorter hn)
        have HN := Aside0.mk (next_some d r A' c' wr htf HDr.out (by have := HNl.out; have := HM.out.2; omega) b q z hn)
        have HFD := Aside0.mk (feedL_some hn)
        have HQ := Aside0.mk hz.1
        clear htf hn hz
        have hd0 := HDr.out.lt
        go_wp2_with (first | (go_at_call 17; refine HN.out.mono ?_; rintro e w3 ⟨g, k, A3, c3, rfl, hO3, hD3, hA3, hK3⟩; have H3 := Aside0.mk (And.intro hO3 (And.intro hD3 (And.intro hA3 hK3))); clear hO3 hD3 hA3 hK3) | (at_builtin; refine Kd.R_append (Kd.slice 5 (Kd.int .u8)) (w0 := w3) w1.heap.size rfl (.tmp 47) (.tmp 49) 22 27 (.slice none 0 0) 24 rfl Tryz.underlying22 info22 rfl (by decide) (by omega) u6 (done.map ints) (ints b) [.slice (some ⟨g, 0, none⟩) b.length k] (fun _ => True) (fun i => wr.heap.size ≤ i) rfl rfl ?aP ?aK ?aF ?aO ?aB ?aS ?aL ?_; (case aP => exact ⟨_, rfl, Kd.R_mono (Kd.R_lower (Kd.R_bound H3.out.1) HK.out.2) (fun i hi => hi.2.1)⟩); (case aK => exact fun i hi => ⟨trivial, fun e => by have := Kd.R_lt HO.out i e.symm; omega⟩); (case aF => exact fun _ _ => trivial); (case aO => exact Kd.R_mono (Kd.R_step (Kd.R_bound HO.out) (fun i hi hlt => H3.out.2.2.2.block i hlt (fun e => by have h1 := hi.2.1; have h2 := Hd0.out.2; have h3 := Hl.out.2; omega))) (fun _ h => h.1)); (case aB => exact Below.refl _ _); (case aS => have h1 := HK.out.2; have h2 := H3.out.2.2.2.size; omega); (case aL => have h1 := HM.out.2; have h2 := HQ.out; have h3 := HNl.out; simp; omega); intro v5 w5 hr5 hb5 hg5 ht5; have H5 := Aside0.mk (And.intro hr5 (And.intro hb5 (And.intro hg5 ht5))); clear hr5 hb5 hg5 ht5))
        obtain ⟨hR5, hB5, hg5, hat5⟩ := H5.out
        obtain ⟨hO3, hD3, hA3, hK3⟩ := H3.out
        have hk2 := HK.out.2
        have hk3 := hK3.size
        have hd02 := Hd0.out.2
        have hl2 := Hl.out.2
        have hown : ∀ i, u6.ownBlock = some i → w1.heap.size ≤ i := fun i e => Kd.R_base HO.out i e
        have hA3b : ∀ a, A3 = some a → w.heap.size ≤ a.block ∧ a.block < w1.heap.size := fun a e => by
          obtain ⟨a', e', hb'⟩ := hA3 a e
          rw [hb']
          exact HA.out a' e'
        have hD5 : DecAt w5 d q 0 A3 c3 := hD3.grown hg5 (fun e => by have := hown d e.symm; omega) (fun a e e2 => by have h1 := hown _ e2.symm; have h2 := (hA3b a e).2; omega)
        have hK5 : KeepX (fun i => i = d) w w5 := by
          have hk := HK.out.1.trans hK3
          exact ⟨hg5.os.trans hk.os, hg5.tape.trans hk.tape, hg5.output.trans hk.output, Nat.le_trans hk.size hg5.size, fun i hi hx => (hg5.block i (Nat.lt_of_lt_of_le hi hk.size) (fun e => by have := hown i e.symm; omega)).trans (hk.block i hi hx)⟩
        have hs5 := hg5.size
        obtain ⟨G, rfl⟩ : ∃ G, gk = G + 1 := ⟨gk - 1, by have := HM.out.1; omega⟩
        go_roundg G
        case measure => omega
        case rel =>
          refine ⟨done ++ [b], q, A3, c3, ⟨?_⟩, ⟨by rw [List.map_append]; exact hR5⟩, ⟨hD5⟩, ⟨hA3b⟩, ⟨hK5, by omega⟩, ⟨?_, ?_⟩⟩
          · rw [HF.out, HFD.out, List.append_assoc]
            rfl
          · have h1 := HM.out.1; have h2 := HQ.out; omega
          · have h1 := HM.out.2; have h2 := HQ.out; simp; omega
end Go.Proofs.YtomebmjjgkcjiaaGreatDoor.G
