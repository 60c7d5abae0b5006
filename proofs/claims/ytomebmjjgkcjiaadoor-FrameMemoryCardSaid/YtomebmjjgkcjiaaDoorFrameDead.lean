/-
  The laws' 'all': its contract. The law FrameDead: its walk.
-/
import Derived.Test.YtomebmjjgkcjiaaDoorFrameAll
set_option linter.unusedVariables false
namespace Go.Proofs.YtomebmjjgkcjiaaDoor.G
open Go.RowKit Go.Proofs.YtomebmjjgkcjiaaDoorW.PrintWords Go.Lib
set_option maxHeartbeats 4000000 in
set_option maxRecDepth 100000 in
theorem all_calls (A : Option Addr) (c : Nat) (ps : List (List UInt8)) (w : World) (hT : TF w) (hC : Kd.C (Kd.slice 5 (Kd.int .u8)) w A ps.length (ps.map ints)) (hc : ps.length ≤ c) (hl : ps.flatten.length < 4000000000) (hn : ps.length < 1000000000) :
    Calls Tryd.prog 18 #[.slice A ps.length c] w fun e w' => ∃ v, e = .returned (.tuple #[v, .int .i64 (feedL ps.flatten).2.2, .int .i64 ((feedL ps.flatten).2.1.length : Nat)]) ∧ OwnRows w' w.heap.size v ((feedL ps.flatten).1.map ints) ∧ Below w.heap.size w w' := by
  have HT := Aside0.mk hT
  have HC := Aside0.mk (And.intro hC hc)
  have HL := Aside0.mk hl
  have HD0 := Aside0.mk (New_dec w)
  have HB0 := Aside0.mk (below_alloc (Below.refl w.heap.size w) (.cells #[.slice none 0 0, .int .i64 0] 48))
  have Hsz0 := Aside0.mk (show (w.alloc (.cells #[.slice none 0 0, .int .i64 0] 48)).heap.size = w.heap.size + 1 by simp)
  clear hT hC hc hl
  go_enter Tryd.func18, Tryd.ntmps18
  go_wp2_with (go_at_call 15; refine (New_calls w).mono ?_; rintro e w1 ⟨rfl, hw1⟩; rw [← hw1] at HD0 HB0 Hsz0; clear hw1)
  go_loopg [6, 7, 8, 9, 10, 21] (ps.length + 1) (fun gk v6 v7 v8 _ _ _ wx => ∃ i : Nat, v8 = .int .i64 i ∧ v7 = .int .i64 (feedL (ps.take i).flatten).2.2 ∧ Aside0 (i ≤ ps.length ∧ ps.length - i < gk) ∧ Aside0 (OwnRows wx (w.heap.size + 1) v6 ((feedL (ps.take i).flatten).1.map ints)) ∧ Aside0 (∃ A' c', DecAt wx w.heap.size (feedL (ps.take i).flatten).2.1 (feedL (ps.take i).flatten).2.2 A' c' ∧ ∀ a, A' = some a → (feedL (ps.take i).flatten).2.1 ≠ [] → some a.block ≠ v6.ownBlock) ∧ Aside0 (Below w.heap.size w wx ∧ w.heap.size + 1 ≤ wx.heap.size))
  case atStart =>
    refine ⟨0, rfl, by rw [List.take_zero, List.flatten_nil, feedL_nil], ⟨Nat.zero_le _, by omega⟩, ⟨?_⟩, ⟨none, 0, ?_, fun a e => nomatch e⟩, ⟨below_alloc HB0.out _, by rw [World.size_alloc, Hsz0.out]; omega⟩⟩
    · rw [List.take_zero, List.flatten_nil, feedL_nil]
      exact R_empty _ _ _ _ (by rw [Hsz0.out]; exact Nat.le_refl _)
    · rw [List.take_zero, List.flatten_nil, feedL_nil]
      exact HD0.out.below (below_alloc (Below.refl _ _) _)
  case round =>
    obtain ⟨i, rfl, rfl, HI, HO, HD, HB⟩ := hrel
    have HS := Aside0.mk (feedS_of (ps.take i).flatten)
    have HSL := Aside0.mk (feedL_len _ (ps.take i).flatten (Nat.lt_succ_self _))
    have HFL := Aside0.mk (flat_le ps i)
    by_cases hlt : i < ps.length
    · have HFT := Aside0.mk (flat_take ps i hlt)
      have HFL1 := Aside0.mk (flat_le ps (i + 1))
      obtain ⟨ad, B, cb, rfl, hcell, hbl, hCB⟩ := row_at (Kd.C_below HC.out.1 HB.out.1) i rfl hlt
      obtain ⟨A', c', hD, hA'⟩ := HD.out
      have HD1 := Aside0.mk (And.intro hD hA')
      have HX := Aside0.mk (And.intro hbl hCB)
      clear hD hA' hbl hCB HD
      generalize feedL (ps.take i).flatten = S at *
      obtain ⟨o, r, e0⟩ := S
      generalize hx : ps[i] = x at *
      have HXX := Aside0.mk hx
      clear hx
      simp only at HD1 HSL HO ⊢
      have hxl : x.length < 4000000000 := by
        have h1 := HFT.out
        have h2 := HFL1.out
        rw [h1, List.length_append] at h2
        have := HL.out
        omega
      have hrx : r.length + x.length < 4000000000 := by
        have h1 := HFT.out
        have h2 := HFL1.out
        rw [h1, List.length_append] at h2
        have := HL.out
        have := HSL.out.1
        omega
      have HXL := Aside0.mk (And.intro hxl hrx)
      clear hxl hrx
      have HNX := Aside0.mk (show feedL (ps.take (i + 1)).flatten = (o ++ (feedD r e0 x).1, (feedD r e0 x).2.1, (feedD r e0 x).2.2) by
        rw [HFT.out, ← HS.out x, feedS_D])
      have HDL := Aside0.mk (feedD_len r e0 x)
      have HOL := Aside0.mk (show o.length + x.length ≤ 8000000000 by have h1 := HSL.out.2.1; have h2 := HFL.out; have h3 := HL.out; have h4 := HXL.out.1; omega)
      clear HFL1 HFT HS
      have hlb : decide ((i : Int) < (ps.length : Int)) = true := decide_eq_true (by omega)
      have HU := Aside0.mk (Kd.R_lt HO.out)
      have HER := Aside0.mk (show e0 ≠ 0 → r = [] from fun h => (HSL.out.2.2 h).1)
      clear HSL
      go_wp2_with (first | (go_at_call 14; refine (Copy_calls B cb x _ HX.out.2 HX.out.1 (by have := HXL.out.1; omega)).mono ?_; rintro e w2 ⟨A2, c2, rfl, hr2, hb2⟩; have H2 := Aside0.mk (And.intro hr2 hb2); clear hr2 hb2) | (go_at_call 16; refine (Feed_any w.heap.size r x e0 A' A2 c' c2 w w2 HT.out (below_step HB.out.1 H2.out.2) (Nat.le_refl _) (HD1.out.1.below H2.out.2) (own_reads H2.out.1).2 (own_reads H2.out.1).1 (by have := HXL.out.2; omega) HER.out).mono ?_; rintro e w3 ⟨v3, A3, c3, rfl, hO3, hD3, hA3, hK3⟩; obtain ⟨Ax, cx, rfl, hlx, hrx⟩ := row_made (base := w.heap.size + 1) hO3 (by have := HB.out.2; have := H2.out.2.size; omega); have H3 := Aside0.mk (And.intro hrx (And.intro hD3 (And.intro hA3 hK3))); clear hO3 hD3 hA3 hK3 hlx hrx) | (at_builtin; refine Kd.R_append_rows (Kd.slice 5 (Kd.int .u8)) (w0 := w3) (w.heap.size + 1) rfl (.tmp 31) (.tmp 32) 32 22 (.slice none 0 0) 24 rfl Tryd.underlying32 info22 rfl (by decide) (by decide) u6 (o.map ints) ((feedD r e0 x).1.map ints) Ax _ _ (fun _ => True) (fun k => w2.heap.size ≤ k) rfl rfl ?aO H3.out.1 (fun _ _ h => h) ?aK (fun _ _ => trivial) (Below.refl _ _) ?aS ?aL ?_; (case aO => exact rows_step HO.out H2.out.2 H3.out.2.2.2); (case aK => exact fun k hk => ⟨trivial, fun e => by have := HU.out k e.symm; have := H2.out.2.size; omega⟩); (case aS => have h1 := HB.out.2; have h2 := H2.out.2.size; have h3 := H3.out.2.2.2.size; omega); (case aL => have h1 := HOL.out; have h2 := HDL.out.2; have h3 := HXL.out.2; simp; omega); intro v5 w5 hr5 hb5 hg5 ht5; have H5 := Aside0.mk (And.intro hr5 (And.intro hg5 ht5)); clear hr5 hb5 hg5 ht5))
      obtain ⟨G, rfl⟩ : ∃ G, gk = G + 1 := ⟨gk - 1, by have := HI.out; omega⟩
      go_roundg G
      case measure => omega
      case rel =>
        obtain ⟨hr5, hg5, ht5⟩ := H5.out
        obtain ⟨_, hD3, hA3, hK3⟩ := H3.out
        have hs5 := hg5.size
        have hs3 := hK3.size
        have hs2 := H2.out.2.size
        have hs1 := HB.out.2
        have hub : ∀ k, u6.ownBlock = some k → w.heap.size + 1 ≤ k := fun k e => Kd.R_base HO.out k e
        have hnd : some w.heap.size ≠ u6.ownBlock := fun e => by have := hub _ e.symm; omega
        refine ⟨i + 1, by go_num, by rw [HNX.out], ⟨by omega, by have := HI.out; omega⟩, ⟨?_⟩, ⟨A3, c3, ?_, ?_⟩, ⟨?_, by omega⟩⟩
        · rw [HNX.out, List.map_append]
          exact hr5
        · rw [HNX.out]
          refine hD3.grown' hg5 hnd (fun a e hn => ?_)
          have h1 := hA3 a e hn
          intro e2
          have := HU.out _ e2.symm
          omega
        · rw [HNX.out]
          intro a e hn e2
          have h1 := hA3 a e hn
          have h2 := hD3.rest_lt hn a e
          rcases ht5 with h | ⟨b, h, hb⟩
          · rw [h] at e2
            have := HU.out _ e2.symm
            omega
          · rw [h] at e2
            injection e2 with e2
            omega
        · have hb13 := (below_step HB.out.1 H2.out.2).trans (hK3.below (by omega) (fun k hk e => by omega))
          exact hb13.grown hg5 (by omega) (fun k e => by have := hub k e; omega)
    · have hlb : decide ((i : Int) < (ps.length : Int)) = false := decide_eq_false (by omega)
      obtain rfl : i = ps.length := by have := HI.out.1; omega
      simp only [List.take_length] at HO HD ⊢
      obtain ⟨A', c', hD, hA'⟩ := HD.out
      have HH := Aside0.mk (Held_calls w.heap.size _ _ A' c' wr hD)
      clear hD hA'
      go_wp2_with (go_at_call 22; refine HH.out.mono ?_; rintro e w2 ⟨rfl, rfl⟩)
      go_ret3
      exact ⟨_, rfl, Kd.R_lower HO.out (by omega), HB.out.1⟩
set_option maxHeartbeats 4000000 in
set_option maxRecDepth 100000 in
theorem dead_calls (A A' : Option Addr) (c c' : Nat) (b m : List UInt8) (w : World) (hT : TF w) (hC : Kd.C (Kd.int .u8) w A b.length (ints b)) (hc : b.length ≤ c) (hC' : Kd.C (Kd.int .u8) w A' m.length (ints m)) (hc' : m.length ≤ c') (hmax : b.length ≤ 140737488355328) (hmax' : m.length ≤ 140737488355328) :
    Calls Tryd.prog 8 #[.slice A b.length c, .slice A' m.length c'] w fun e w' => e = .returned (.bool true) ∧ Below w.heap.size w w' := by
  have HA := Aside0.mk (Alive_calls w hT)
  have hwr : wrap64 ((b.length : Int) + (m.length : Int)) = (b.length : Int) + (m.length : Int) := by unfold wrap64; omega
  by_cases hbig : 200000 < b.length + m.length
  · have h1 : decide ((200000 : Int) < (b.length : Int) + (m.length : Int)) = true := decide_eq_true (by omega)
    have h2 : (200000 : Int) < (b.length : Int) + (m.length : Int) := by omega
    clear hbig hC hc hT hC' hc'
    go_enter Tryd.func8, Tryd.ntmps8
    go_wp2_with (go_at_call 9; refine HA.out.mono ?_; rintro e w1 ⟨rfl, hb⟩; have HB1 := Aside0.mk hb; clear hb)
    go_ret
    exact ⟨rfl, HB1.out⟩
  · have h1 : decide ((200000 : Int) < (b.length : Int) + (m.length : Int)) = false := decide_eq_false (by omega)
    have h2 : ¬ (200000 : Int) < (b.length : Int) + (m.length : Int) := by omega
    have HT := Aside0.mk hT
    have HC := Aside0.mk (And.intro hC hc)
    have HC' := Aside0.mk (And.intro hC' hc')
    have HL := Aside0.mk hbig
    have HSL := Aside0.mk (feedL_len _ b (Nat.lt_succ_self _))
    have HF := Aside0.mk (show feedD [] 0 b = feedL b from by unfold feedD feedS; simp)
    clear hbig hC hc hT hC' hc'
    generalize feedL b = S at *
    obtain ⟨o, r, e0⟩ := S
    by_cases he : e0 = 0
    · subst he
      go_enter Tryd.func8, Tryd.ntmps8
      go_wp2_with (first | (go_at_call 9; refine HA.out.mono ?_; rintro e w1 ⟨rfl, hb⟩; have HB1 := Aside0.mk hb; clear hb) | (go_at_call 15; refine (New_calls w1).mono ?_; rintro e w2 ⟨rfl, hw2⟩; have HD2 := Aside0.mk (hw2 ▸ New_dec w1); have HB2 := Aside0.mk (hw2 ▸ (below_alloc HB1.out (.cells #[.slice none 0 0, .int .i64 0] 48))); clear hw2) | (go_at_call 14; refine (Copy_calls A c b _ (Kd.C_below HC.out.1 HB2.out) HC.out.2 (by have := HL.out; omega)).mono ?_; rintro e w3 ⟨A3, c3, rfl, hr3, hb3⟩; have H3 := Aside0.mk (And.intro hr3 hb3); clear hr3 hb3) | (go_at_call 16; refine (Feed_any w1.heap.size [] b 0 none A3 0 c3 w w3 HT.out (below_step HB2.out H3.out.2) HB1.out.size (HD2.out.below H3.out.2) (own_reads H3.out.1).2 (own_reads H3.out.1).1 (by have := HL.out; simp; omega) (fun h => rfl)).mono ?_; rintro e w4 ⟨v4, A4, c4, he4, hO4, hD4, hA4, hK4⟩; rw [HF.out] at he4 hD4; subst he4; have H4 := Aside0.mk (And.intro hD4 hK4); clear hD4 hA4 hK4 hO4) | (go_at_call 21; refine (Dead_calls w1.heap.size _ _ _ _ w4 H4.out.1 false rfl).mono ?_; rintro e w5 ⟨rfl, rfl⟩))
      go_ret
      refine ⟨rfl, ?_⟩
      exact (below_step HB2.out H3.out.2).trans (H4.out.2.below (below_step HB2.out H3.out.2).size (fun k hk e => by have := HB1.out.size; omega))
    · have hb0 : (e0 == 0) = false := by simpa using he
      have hb1 : (e0 != 0) = true := by simpa using he
      have HE := Aside0.mk (HSL.out.2.2 he)
      obtain ⟨hr, hor⟩ := HE.out
      subst hr
      have HBE := Aside0.mk hb1
      have hee : (e0 == e0) = true := by simp
      rcases hor with rfl | rfl
      all_goals
        clear he hb0 hb1
        go_enter Tryd.func8, Tryd.ntmps8
        go_wp2_with (first | (go_at_call 9; refine HA.out.mono ?_; rintro e w1 ⟨rfl, hb⟩; have HB1 := Aside0.mk hb; clear hb) | (go_at_call 15; refine (New_calls w1).mono ?_; rintro e w2 ⟨rfl, hw2⟩; have HD2 := Aside0.mk (hw2 ▸ New_dec w1); have HB2 := Aside0.mk (hw2 ▸ (below_alloc HB1.out (.cells #[.slice none 0 0, .int .i64 0] 48))); clear hw2))
        refine (Copy_calls A c b _ (Kd.C_below HC.out.1 HB2.out) HC.out.2 (by have := HL.out; omega)).mono ?_
        rintro e w3 ⟨A3, c3, rfl, hr3, hb3⟩
        have H3 := Aside0.mk (And.intro hr3 hb3)
        clear hr3 hb3
        go_wp2_with (fail)
        refine (Feed_any w1.heap.size [] b 0 none A3 0 c3 w w3 HT.out (below_step HB2.out H3.out.2) HB1.out.size (HD2.out.below H3.out.2) (own_reads H3.out.1).2 (own_reads H3.out.1).1 (by have := HL.out; simp; omega) (fun h => rfl)).mono ?_
        rintro e w4 ⟨v4, A4, c4, he4, hO4, hD4, hA4, hK4⟩
        rw [HF.out] at he4 hD4
        subst he4
        have H4 := Aside0.mk (And.intro hD4 ((below_step HB2.out H3.out.2).trans (hK4.below (below_step HB2.out H3.out.2).size (fun k hk e => by have := HB1.out.size; omega))))
        clear hD4 hA4 hK4 hO4
        go_wp2_with (fail)
        refine (Copy_calls A' c' m _ (Kd.C_below HC'.out.1 H4.out.2) HC'.out.2 (by have := HL.out; omega)).mono ?_
        rintro e w5 ⟨A5, c5, rfl, hr5, hb5⟩
        have H5 := Aside0.mk (And.intro hr5 hb5)
        clear hr5 hb5
        go_wp2_with (fail)
        refine (Feed_dead w1.heap.size [] _ A4 c4 _ w5 (H4.out.1.below H5.out.2) (by decide)).mono ?_
        rintro e w6 ⟨rfl, hb6⟩
        have H6 := Aside0.mk (And.intro ((H4.out.1.below H5.out.2).below hb6) (below_step (below_step H4.out.2 H5.out.2) hb6))
        clear hb6
        go_wp2_with (fail)
        refine (Dead_calls w1.heap.size _ _ _ _ w6 H6.out.1 true (by decide)).mono ?_
        rintro e w7 ⟨rfl, rfl⟩
        go_wp2_with (go_at_call 22; refine (Held_calls w1.heap.size _ _ _ _ w6 H6.out.1).mono ?_; rintro e w8 ⟨rfl, rfl⟩)
        go_ret
        exact ⟨rfl, H6.out.2⟩
end Go.Proofs.YtomebmjjgkcjiaaDoor.G
