/-
  The law FrameFeeds: its walk.
-/
import Derived.Test.YtomebmjjgkcjiaaGreatDoorFrameRefF
import Derived.Test.YtomebmjjgkcjiaaGreatDoorFrameAlive
import Derived.Deep.RegionHeld3
import Derived.BigRegion
set_option linter.unusedVariables false
namespace Go.Proofs.YtomebmjjgkcjiaaGreatDoor.G
open Go.RowKit Go.Proofs.YtomebmjjgkcjiaaGreatDoorW.PrintWords Go.Lib
/-- A list's size, as the laws reckon it. -/
def sizeL (ps : List (List UInt8)) : Nat := (ps.map fun p => 1 + p.length).sum
theorem sizeL_cons (p : List UInt8) (ps : List (List UInt8)) : sizeL (p :: ps) = 1 + p.length + sizeL ps := by simp [sizeL]
theorem sizeL_append (ps qs : List (List UInt8)) : sizeL (ps ++ qs) = sizeL ps + sizeL qs := by simp [sizeL]
def grB (ps : List (List UInt8)) : Bool := decide (200 < ps.length ∨ 200000 < sizeL ps)
theorem rd_ints (ps : List (List UInt8)) (i : Nat) (h : i < ps.length) : PUt.rd_L1 (ps.map ints) (i : Int) = ints ps[i] := by
  unfold PUt.rd_L1
  rw [Int.toNat_natCast, List.getD_eq_getElem?_getD, List.getElem?_map, List.getElem?_eq_getElem h]
  rfl
theorem great_many (L : List (List Int)) (h : 200 < L.length) (hm : L.length < 4611686018427387904) : ∀ (d i : Nat) (n : Int), L.length - i = d → i ≤ L.length → PUt.parlancelaw03_great.l0 (d + 1) L n (i : Int) = some true
  | 0, i, n, hd, hi => by
    unfold PUt.parlancelaw03_great.l0
    rw [if_neg (by omega)]
    split
    · rfl
    · rw [decide_eq_true (by omega)]
  | d + 1, i, n, hd, hi => by
    unfold PUt.parlancelaw03_great.l0
    rw [if_pos (by omega), if_pos (by omega)]
    have e : wrap64 ((i : Int) + 1) = ((i + 1 : Nat) : Int) := by unfold wrap64; omega
    rw [e]
    exact great_many L h hm d (i + 1) _ (by omega) (by omega)
theorem great_few (ps : List (List UInt8)) (h : ps.length ≤ 200) (hm : ∀ p ∈ ps, p.length ≤ 140737488355328) : ∀ (d i : Nat), ps.length - i = d → i ≤ ps.length → sizeL (ps.take i) ≤ i * 140737488355329 → PUt.parlancelaw03_great.l0 (d + 1) (ps.map ints) (sizeL (ps.take i)) (i : Int) = some (decide (200000 < sizeL ps))
  | 0, i, hd, hi, hs => by
    unfold PUt.parlancelaw03_great.l0
    have hil : i = ps.length := by omega
    subst hil
    rw [List.length_map, if_neg (by omega), List.take_length]
    by_cases hb : 200000 < sizeL ps
    · rw [if_pos (by omega), decide_eq_true hb]
    · rw [if_neg (by omega), decide_eq_false hb, decide_eq_false (by omega)]
  | d + 1, i, hd, hi, hs => by
    have hlt : i < ps.length := by omega
    have hp := hm ps[i] (List.getElem_mem hlt)
    unfold PUt.parlancelaw03_great.l0
    rw [List.length_map, if_pos (by omega), if_pos (by omega), rd_ints ps i hlt, ints_length]
    have e : wrap64 ((i : Int) + 1) = ((i + 1 : Nat) : Int) := by unfold wrap64; omega
    have e2 : wrap64 (1 + (ps[i].length : Int)) = 1 + (ps[i].length : Int) := by unfold wrap64; omega
    have hst : sizeL (ps.take (i + 1)) = sizeL (ps.take i) + (1 + ps[i].length) := by
      rw [List.take_succ_eq_append_getElem hlt, sizeL_append, sizeL_cons]
      simp [sizeL]
    have e3 : wrap64 ((sizeL (ps.take i) : Int) + (1 + (ps[i].length : Int))) = ((sizeL (ps.take (i + 1)) : Nat) : Int) := by rw [hst]; unfold wrap64; omega
    rw [e, e2, e3]
    exact great_few ps h hm d (i + 1) (by omega) (by omega) (by rw [hst, Nat.add_mul]; omega)
theorem great_f (ps : List (List UInt8)) (hl : ps.length < 4611686018427387904) (hm : ∀ p ∈ ps, p.length ≤ 140737488355328) : PUt.parlancelaw03_great.f (ps.length + 1) (ps.map ints) = some (grB ps) := by
  unfold PUt.parlancelaw03_great.f grB
  by_cases h : 200 < ps.length
  · rw [decide_eq_true (.inl h)]
    exact great_many _ (by rw [List.length_map]; exact h) (by rw [List.length_map]; exact hl) _ 0 0 (by rw [List.length_map]; rfl) (Nat.zero_le _)
  · have := great_few ps (by omega) hm ps.length 0 rfl (Nat.zero_le _) (by simp [sizeL])
    rw [List.take_zero] at this
    have e : decide (200000 < sizeL ps) = decide (200 < ps.length ∨ 200000 < sizeL ps) := by simp [h]
    rw [← e]
    exact this
theorem Great_calls (A : Option Addr) (c : Nat) (ps : List (List UInt8)) (w : World) (hC : Kd.C (Kd.slice 5 (Kd.int .u8)) w A ps.length (ps.map ints)) (hc : ps.length ≤ c) (hl : ps.length < 4611686018427387904) (hm : ∀ p ∈ ps, p.length ≤ 140737488355328) :
    Calls Tryz.prog 5 #[.slice A ps.length c] w fun e w' => e = .returned (.bool (grB ps)) ∧ Below w.heap.size w w' := by
  have h := PUt.parlancelaw03_great.calls (ps.length + 1) A c (ps.map ints) (grB ps) w (by rw [List.length_map]; exact hC) (by rw [List.length_map]; exact hc) (great_f ps hl hm)
  rw [List.length_map] at h
  refine h.mono ?_
  rintro e w' ⟨rfl, hd⟩
  exact ⟨rfl, hd.below⟩
theorem sizeL_take (ps : List (List UInt8)) (i : Nat) (h : i < ps.length) : sizeL (ps.take (i + 1)) = sizeL (ps.take i) + (1 + ps[i].length) := by
  rw [List.take_succ_eq_append_getElem h, sizeL_append, sizeL_cons]
  simp [sizeL]
theorem sizeL_le (ps : List (List UInt8)) (i : Nat) : sizeL (ps.take i) ≤ sizeL ps := by
  conv => rhs; rw [← List.take_append_drop i ps]
  rw [sizeL_append]
  omega
theorem RefFeed_any (rest s : List UInt8) (e0 : Int) (A0 B : Option Addr) (c0 cb : Nat) (w : World) (hC0 : Kd.C (Kd.int .u8) w A0 rest.length (ints rest)) (hc0 : rest.length ≤ c0) (hC : Kd.C (Kd.int .u8) w B s.length (ints s)) (hcb : s.length ≤ cb) (hl : rest.length + s.length < 4000000000) (hr : e0 ≠ 0 → rest = []) :
    Calls Tryz.prog 9 #[.agg #[.slice A0 rest.length c0, .int .i64 e0], .slice B s.length cb] w fun e w' => ∃ A' c' Av cv, e = .returned (.tuple #[.agg #[.slice A' (feedD rest e0 s).2.1.length c', .int .i64 (feedD rest e0 s).2.2], .slice Av (feedD rest e0 s).1.length cv, .int .i64 (feedD rest e0 s).2.2]) ∧ (feedD rest e0 s).2.1.length ≤ c' ∧ Kd.C (Kd.int .u8) w' A' (feedD rest e0 s).2.1.length (ints (feedD rest e0 s).2.1) ∧ (feedD rest e0 s).1.length ≤ cv ∧ Kd.C (Kd.slice 5 (Kd.int .u8)) w' Av (feedD rest e0 s).1.length ((feedD rest e0 s).1.map ints) ∧ OwnRows w' w.heap.size (.slice Av (feedD rest e0 s).1.length cv) ((feedD rest e0 s).1.map ints) ∧ Below w.heap.size w w' := by
  by_cases he : e0 = 0
  · subst he
    have hf : feedD rest 0 s = feedL (rest ++ s) := by unfold feedD feedS; simp
    rw [hf]
    exact RefFeed_calls rest s (rest ++ s) rfl A0 B c0 cb w hC0 hc0 hC hcb hl
  · have hf : feedD rest e0 s = ([], rest, e0) := by unfold feedD feedS; simp [he]
    rw [hf]
    obtain rfl := hr he
    refine (RefFeed_dead e0 B c0 s.length cb A0 w he).mono ?_
    rintro e w' ⟨rfl, hb⟩
    exact ⟨A0, c0, none, 0, rfl, Nat.zero_le _, ⟨rfl, by simp, fun h => absurd h (Nat.lt_irrefl 0)⟩, Nat.le_refl _, Kd.C_nil _ _, Kd.R_nil _ _ _ _ _, hb⟩
/-- A row of bytes stays where only a block that begins with a slice turns. -/
theorem rowK {W w : World} {b T pn pc : Nat} {P : Option Addr} {y : Value} (h : W.heap[b]? = some (.cells #[.slice P pn pc, y] T (0, 0))) (hy : ∀ z, y ≠ .int .u8 z) (hk : KeepX (fun i => i = b) W w) (r : List UInt8) (A : Option Addr) (hC : Kd.C (Kd.int .u8) W A r.length (ints r)) : Kd.C (Kd.int .u8) w A r.length (ints r) :=
  keepC hk hC (notSlice h hy r A hC)
theorem DecAt.setK {W w : World} {d b T pn pc : Nat} {rest : List UInt8} {e : Int} {A P : Option Addr} {c : Nat} {y : Value} (hD : DecAt W d rest e A c) (h : W.heap[b]? = some (.cells #[.slice P pn pc, y] T (0, 0))) (hy : ∀ z, y ≠ .int .u8 z) (hk : KeepX (fun i => i = b) W w) (hb : d ≠ b) : DecAt w d rest e A c :=
  ⟨(hk.block d hD.lt (fun e => hb e)).trans hD.blk, rowK h hy hk rest A hD.row, hD.cap, hD.top, hD.apart⟩
theorem feedD_err (r : List UInt8) (e0 : Int) (x : List UInt8) (h : e0 ≠ 0 → r = []) : (feedD r e0 x).2.2 ≠ 0 → (feedD r e0 x).2.1 = [] := by
  unfold feedD feedS
  simp only
  split
  · exact h
  · exact fun hx => ((feedL_len _ (r ++ x) (Nat.lt_succ_self _)).2.2 hx).1
theorem keep3 {w W : World} {p0 p1 p2 : Addr} {v0 v1 v2 : Value} (hb : Below w.heap.size w W) (h0 : w.cell? p0 = some v0) (h1 : w.cell? p1 = some v1) (h2 : w.cell? p2 = some v2) : W.cell? p0 = some v0 ∧ W.cell? p1 = some v1 ∧ W.cell? p2 = some v2 :=
  ⟨(hb.cell (World.block_lt_of_cell? _ _ h0)).trans h0, (hb.cell (World.block_lt_of_cell? _ _ h1)).trans h1, (hb.cell (World.block_lt_of_cell? _ _ h2)).trans h2⟩
theorem setTwo (w : World) (b : Nat) (u v : Value) : KeepX (fun i => i = b) w ((w.setCell ⟨b, 0, none⟩ u).setCell ⟨b, 1, none⟩ v) := by
  have h := ((Below.refl 0 w).setCell (p := ⟨b, 0, none⟩) (Nat.zero_le _) u).setCell (p := ⟨b, 1, none⟩) (Nat.zero_le _) v
  exact ⟨h.os, h.tape, h.output, h.size, fun k _ hx => (Below.heap_setCell _ ⟨b, 1, none⟩ _ k hx).trans (Below.heap_setCell _ ⟨b, 0, none⟩ _ k hx)⟩
theorem cellTwo {W : World} {b T : Nat} {x y : Value} (h : W.heap[b]? = some (.cells #[x, y] T (0, 0))) : W.cell? ⟨b, 0, none⟩ = some x ∧ W.cell? ⟨b, 1, none⟩ = some y ∧ W.frozen? ⟨b, 0, none⟩ = false ∧ W.frozen? ⟨b, 1, none⟩ = false := by
  refine ⟨?_, ?_, frozenB h 0, frozenB h 1⟩
  · rw [cellB h]; rfl
  · rw [cellB h]; rfl
theorem feedD_each (r : List UInt8) (e0 : Int) (x : List UInt8) : ∀ l ∈ (feedD r e0 x).1, l.length ≤ r.length + x.length := by
  unfold feedD feedS
  simp only
  split
  · simp
  · rw [List.nil_append]
    intro l hl
    have := feedL_each _ (r ++ x) (Nat.lt_succ_self _) l hl
    rw [List.length_append] at this
    exact this
theorem cut8 (A : Option Addr) (x : List UInt8) (c : Nat) (hb : x.length + 8 ≤ c) :
    ∀ w : World, (Instr.slice 27 (.slice A (x.length + 8) c) none (some (.int .i64 x.length)) none).run Tryz.prog w = .ok (.slice A x.length c) w := by
  intro w
  obtain ⟨i0, hi, hz0, hz1, hz2⟩ := info_parts info8
  have := cut_to (P := Tryz.prog) 27 5 .i64 Tryz.underlying27 hi A (x.length + 8) c (x.length : Int) (by omega) (by omega) hb w
  simpa using this
set_option maxHeartbeats 4000000 in
set_option maxRecDepth 100000 in
theorem feeds_calls (A : Option Addr) (c : Nat) (ps : List (List UInt8)) (w : World) (hT : TF w) (hC : Kd.C (Kd.slice 5 (Kd.int .u8)) w A ps.length (ps.map ints)) (hc : ps.length ≤ c) (hl : ps.length < 4611686018427387904) (hm : ∀ p ∈ ps, p.length ≤ 140737488355328) :
    Calls Tryz.prog 3 #[.slice A ps.length c] w fun e w' => e = .returned (.bool true) ∧ Below w.heap.size w w' := by
  have HA := Aside0.mk (Alive_calls w hT)
  have HG := Aside0.mk (fun (W : World) (hb : Below w.heap.size w W) => Great_calls A c ps W (Kd.C_below hC hb) hc hl hm)
  by_cases hbig : grB ps = true
  · rw [hbig] at HG
    clear hbig hC hc hT hl hm
    go_enter Tryz.func3, Tryz.ntmps3
    go_wp2_with (go_at_call 4; refine HA.out.mono ?_; rintro e w1 ⟨rfl, hb⟩; have HB1 := Aside0.mk hb; clear hb)
    refine (HG.out w1 HB1.out).mono ?_
    rintro e w2 ⟨rfl, hb2⟩
    have HB2 := Aside0.mk (below_step HB1.out hb2)
    clear hb2
    go_wp2_with (fail)
    go_ret
    exact ⟨rfl, HB2.out⟩
  · rw [Bool.not_eq_true] at hbig
    have hg := of_decide_eq_false hbig
    rw [hbig] at HG
    have HT := Aside0.mk hT
    have HC := Aside0.mk (And.intro hC hc)
    have HL := Aside0.mk (show ps.length ≤ 200 ∧ sizeL ps ≤ 200000 by omega)
    clear hbig hC hc hT hl hm hg
    go_enter Tryz.func3, Tryz.ntmps3
    go_wp2_with (go_at_call 4; refine HA.out.mono ?_; rintro e w1 ⟨rfl, hb⟩; have HB1 := Aside0.mk hb; clear hb)
    refine (HG.out w1 HB1.out).mono ?_
    rintro e w2 ⟨rfl, hb2⟩
    have HB2 := Aside0.mk (below_step HB1.out hb2)
    clear hb2
    go_wp2_with (go_at_call 6; refine (New_calls w2).mono ?_; rintro e w3 ⟨rfl, hw3⟩; have HD3 := Aside0.mk (hw3 ▸ New_dec w2); have HB3 := Aside0.mk (hw3 ▸ (below_alloc HB2.out (.cells #[.slice none 0 0, .int .i64 0] 42))); have HZ3 := Aside0.mk (show w3.heap.size = w2.heap.size + 1 by rw [hw3]; simp); clear hw3)
    have H4 := Aside0.mk (show (w3.alloc (.cells #[.slice none 0 0, .int .i64 0] 30)).heap[w3.heap.size]? = some (.cells #[.slice none 0 0, .int .i64 0] 30 (0, 0)) from World.alloc_heap_new w3 _)
    have HB4 := Aside0.mk (below_alloc HB3.out (.cells #[.slice none 0 0, .int .i64 0] 30))
    have HD4 := Aside0.mk (HD3.out.below (below_alloc (Below.refl _ w3) (.cells #[.slice none 0 0, .int .i64 0] 30)))
    have HZ := Aside0.mk (show w.heap.size ≤ w2.heap.size from HB2.out.size)
    go_loopg [5, 6, 7, 8, 9, 10, 11] (ps.length + 1) (fun gk v5 _ _ _ _ _ _ wx => ∃ (i : Nat) (r : List UInt8) (e0 : Int) (A' : Option Addr) (c' : Nat) (Ar : Option Addr) (cr : Nat), v5 = .int .i64 i ∧ Aside0 (i ≤ ps.length ∧ ps.length - i < gk) ∧ Aside0 (DecAt wx w2.heap.size r e0 A' c') ∧ Aside0 (wx.heap[w3.heap.size]? = some (.cells #[.slice Ar r.length cr, .int .i64 e0] 30 (0, 0)) ∧ r.length ≤ cr ∧ Kd.C (Kd.int .u8) wx Ar r.length (ints r)) ∧ Aside0 (Below w.heap.size w wx) ∧ Aside0 (r.length ≤ sizeL (ps.take i) ∧ (e0 ≠ 0 → r = [])))
    case atStart => exact ⟨0, [], 0, none, 0, none, 0, rfl, ⟨Nat.zero_le _, by omega⟩, HD4, ⟨H4.out, Nat.zero_le _, ⟨rfl, by simp, fun h => absurd h (Nat.lt_irrefl 0)⟩⟩, HB4, ⟨by simp, fun _ => rfl⟩⟩
    case round =>
      obtain ⟨i, r, e0, A', c', Ar, cr, rfl, HI, HD, HM, HB, HS⟩ := hrel
      by_cases hlt : i < ps.length
      · have hlb : decide ((i : Int) < (ps.length : Int)) = true := decide_eq_true (by omega)
        obtain ⟨ad, B, cb, rfl, hcell0, hbl, hCB0⟩ := row_at HC.out.1 i rfl hlt
        have hCB := Kd.C_below hCB0 HB.out
        have hcell := (HB.out.cell (World.block_lt_of_cell? w _ hcell0)).trans hcell0
        have HX := Aside0.mk (And.intro hbl hCB)
        have HX0 := Aside0.mk (And.intro hcell0 hCB0)
        have HST := Aside0.mk (And.intro (sizeL_take ps i hlt) (sizeL_le ps (i + 1)))
        clear hbl hCB hcell0 hCB0
        generalize ps[i] = x at *
        have HXL := Aside0.mk (show r.length + x.length < 400000 by have h1 := HST.out.1; have h2 := HST.out.2; have h3 := HL.out.2; have h4 := HS.out.1; omega)
        have HSP := Aside0.mk (fun (W : World) (hb : Below wr.heap.size wr W) => Spare_calls B cb x W (Kd.C_below HX.out.2 hb) HX.out.1 (by have := HXL.out; omega))
        have hx8 : x.length < 400000 := by have := HXL.out; omega
        have HDL := Aside0.mk (feedD_len r e0 x)
        have HEA := Aside0.mk (feedD_each r e0 x)
        have HFA := Aside0.mk (fun (W : World) (A5 : Option Addr) (c5 : Nat) (hb : Below wr.heap.size wr W) (hC5 : Kd.C (Kd.int .u8) W A5 x.length (ints x)) (h5 : x.length ≤ c5) => Feed_any w2.heap.size r x e0 A' A5 c' c5 w W HT.out (below_step HB.out hb) HZ.out (HD.out.below hb) hC5 h5 (by have := HXL.out; omega) HS.out.2)
        have HRF := Aside0.mk (fun (W : World) (hb : Kd.C (Kd.int .u8) W Ar r.length (ints r)) (hx : Kd.C (Kd.int .u8) W B x.length (ints x)) => RefFeed_any r x e0 Ar B cr cb W hb HM.out.2.1 hx HX.out.1 (by have := HXL.out; omega) HS.out.2)
        have HFS := Aside0.mk (show (feedD r e0 x).2.2 ≠ 0 → (feedD r e0 x).2.1 = [] from feedD_err r e0 x HS.out.2)
        generalize feedD r e0 x = F at *
        obtain ⟨o, q, e1⟩ := F
        simp only at HDL HEA HFA HRF HFS
        have HFX : (ints (x ++ fill)).length = x.length + 8 := by rw [ints_length, List.length_append]; rfl
        have HXF := Aside0.mk HFX
        clear HFX
        go_upto_region 14 with (first | (go_at_call 7; refine (HSP.out wr (Below.refl _ _)).mono ?_; rintro e w5 ⟨A5, c5, rfl, hl5, hC5, hb5⟩; have hcell5 := (hb5.cell (World.block_lt_of_cell? wr _ hcell)).trans hcell; have hcut := cut8 A5 x c5 hl5; have H5 := Aside0.mk (And.intro hl5 (And.intro hC5 hb5)); clear hl5 hC5 hb5) | (go_at_call 8; refine (HFA.out w5 A5 c5 H5.out.2.2 ?_ (by have := H5.out.1; omega)).mono ?_; (have h := take_C (l := x ++ fill) (by rw [← ints_length, HXF.out]; exact H5.out.2.1) x.length (by rw [List.length_append]; omega); rw [List.take_left] at h; exact h); rintro e w6 ⟨v6, A6, c6, rfl, hO6, hD6, hA6, hK6⟩; have H6 := Aside0.mk (And.intro hO6 (And.intro hD6 (And.intro hA6 hK6))); clear hO6 hD6 hA6 hK6))
        obtain ⟨hO6, hD6, hA6, hK6⟩ := H6.out
        obtain ⟨hl5, hC5, hb5⟩ := H5.out
        have hB5 := below_step HB.out hb5
        have hB6 : Below w.heap.size w w6 := hB5.trans (hK6.below (by have := hB5.size; omega) (fun k hk e => by have := HZ.out; omega))
        have hM5 := (hb5.block _ (blk_lt HM.out.1)).trans HM.out.1
        have hM6 := (hK6.block _ (blk_lt hM5) (by have := HZ3.out; omega)).trans hM5
        have hC6 := rowK (HD.out.below hb5).blk (fun z e => by cases e) hK6 r Ar (Kd.C_below HM.out.2.2 hb5)
        have hcell6 := (hB6.cell (World.block_lt_of_cell? w _ HX0.out.1)).trans HX0.out.1
        have HRF6 := Aside0.mk (fun (W : World) (hb : Below w6.heap.size w6 W) => (HRF.out W (Kd.C_below hC6 hb) (Kd.C_below (Kd.C_below HX0.out.2 hB6) (by simpa using hb))).mono (fun e w' ⟨A', c', Av, cv, h1, h2, h3, h4, h5, h7, h6⟩ => (⟨A', c', Av, cv, h1, h2, h3, h4, h5, below_step hb h6, h6, h7⟩ : ∃ A' c' Av cv, e = Ending.returned (.tuple #[.agg #[.slice A' q.length c', .int .i64 e1], .slice Av o.length cv, .int .i64 e1]) ∧ q.length ≤ c' ∧ Kd.C (Kd.int .u8) w' A' q.length (ints q) ∧ o.length ≤ cv ∧ Kd.C (Kd.slice 5 (Kd.int .u8)) w' Av o.length (o.map ints) ∧ Below w6.heap.size w6 w' ∧ Below W.heap.size W w' ∧ OwnRows w' W.heap.size (.slice Av o.length cv) (o.map ints))))
        have H67 := Aside0.mk (And.intro hM6 (And.intro hB6 hcell6))
        have m0 := cellB hM6 0
        have m1 := cellB hM6 1
        simp only [List.getElem?_toArray, List.getElem?_cons_zero, List.getElem?_cons_succ] at m0 m1
        clear hO6 hD6 hA6 hK6 hl5 hC5 hb5 hB5 hB6 hM5 hC6 hcell hcell5 hcut hM6
        go_cut [9, 10, 11] (fun v9 v10 v11 wx => ∃ (A7 : Option Addr) (c7 : Nat) (Av : Option Addr) (cv g : Nat), v9 = .pointer (some ⟨g, 0, none⟩) ∧ v10 = .slice Av o.length cv ∧ v11 = .int .i64 e1 ∧ Aside0 (wx.heap[g]? = some (.cells #[.slice A7 q.length c7, .int .i64 e1] 30 (0, 0))) ∧ Aside0 (q.length ≤ c7 ∧ Kd.C (Kd.int .u8) wx A7 q.length (ints q)) ∧ Aside0 (OwnRows wx w6.heap.size (.slice Av o.length cv) (o.map ints)) ∧ Aside0 (Below w6.heap.size w6 wx ∧ w6.heap.size ≤ g))
        case first =>
          go_region_held3 (fun w' => w'.cell? ⟨w3.heap.size, 0, none⟩ = some (.slice Ar r.length cr) ∧ w'.cell? ⟨w3.heap.size, 1, none⟩ = some (.int .i64 e0) ∧ w'.cell? (ad.add i) = some (.slice B x.length cb)) (first | exact ⟨m0, m1, hcell6⟩ | exact keep3 H7.out.2.2.2.2.1 m0 m1 hcell6 | exact keep3 (below_alloc H7.out.2.2.2.2.1 _) m0 m1 hcell6 | exact keep3 (below_alloc (Below.refl _ _) _) m0 m1 hcell6 | exact keep3 (below_drew (below_alloc (Below.refl _ _) _)) m0 m1 hcell6 | exact keep3 (((below_alloc H7.out.2.2.2.2.1 _).setCell H7.out.2.2.2.2.1.size _).setCell H7.out.2.2.2.2.1.size _) m0 m1 hcell6 | exact keep3 ((H7.out.2.2.2.2.1.setCell (Nat.le_refl _) _).setCell (Nat.le_refl _) _) m0 m1 hcell6 | (trace_state; fail)) (first | (go_at_call 9; refine (HRF6.out _ ?_).mono ?_; (first | exact below_drew (Below.refl _ _) | exact below_drew (below_alloc (Below.refl _ _) _) | exact below_alloc (below_drew (Below.refl _ _)) _); rintro e w7 ⟨A7, c7, Av, cv, rfl, hl7, hC7, hlv, hCv, hb7, hb8, hO8⟩; have H7 := Aside0.mk (And.intro hl7 (And.intro hC7 (And.intro hlv (And.intro hCv (And.intro hb7 (And.intro hb8 hO8)))))); (try (have hn := (hb8.block w6.heap.size (by simp)).trans (World.alloc_heap_new w6 (.cells #[.slice none 0 0, .int .i64 0] 30)); have n0 := cellB hn 0; have n1 := cellB hn 1; have n2 := frozenB hn 0; have n3 := frozenB hn 1; have HN := Aside0.mk hn; simp only [List.getElem?_toArray, List.getElem?_cons_zero, List.getElem?_cons_succ] at n0 n1; clear hn)); clear hl7 hC7 hlv hCv hb7 hb8 hO8))
          all_goals (try go_wp2_with (fail))
          all_goals go_meet
          case rel => exact ⟨A7, c7, Av, cv, w7.heap.size, rfl, rfl, rfl, ⟨World.alloc_heap_new w7 _⟩, ⟨H7.out.1, Kd.C_below H7.out.2.1 (below_alloc (Below.refl _ _) _)⟩, ⟨Kd.R_below (Kd.R_lower H7.out.2.2.2.2.2.2 (by simp)) (below_alloc (Below.refl _ _) _)⟩, ⟨below_alloc H7.out.2.2.2.2.1 _, H7.out.2.2.2.2.1.size⟩⟩
          case rel =>
            have hk := setTwo w7 w6.heap.size (.slice A7 q.length c7) (.int .i64 e1)
            have hn := blk_set (blk_set HN.out 0 (.slice A7 q.length c7)) 1 (.int .i64 e1)
            have hO : OwnRows w7 (w6.heap.size + 1) (.slice Av o.length cv) (o.map ints) := by
              have h := H7.out.2.2.2.2.2.2
              simpa using h
            have hO2 := Kd.R_lower (rows_step hO (Below.refl _ _) hk) (Nat.le_succ w6.heap.size)
            refine ⟨A7, c7, Av, cv, w6.heap.size, rfl, rfl, rfl, ⟨hn⟩, ⟨H7.out.1, rowK HN.out (fun z e => by cases e) hk q A7 H7.out.2.1⟩, ⟨hO2⟩, ⟨?_, Nat.le_refl _⟩⟩
            exact (H7.out.2.2.2.2.1.setCell (p := ⟨w6.heap.size, 0, none⟩) (Nat.le_refl _) _).setCell (p := ⟨w6.heap.size, 1, none⟩) (Nat.le_refl _) _
        case rest =>
          obtain ⟨A7, c7, Av, cv, g, rfl, rfl, rfl, HN, H7, HV, HB7⟩ := hcut
          have hM7 := (HB7.out.1.block _ (blk_lt H67.out.1)).trans H67.out.1
          have HM7 := Aside0.mk hM7
          clear m0 m1 hcell6
          obtain ⟨m0, m1, m2, m3⟩ := cellTwo hM7
          obtain ⟨g0, g1, g2, g3⟩ := cellTwo HN.out
          clear hM7
          obtain ⟨Ax, cx, rfl, hlx0, hCx0⟩ := Kd.R_reads H6.out.1
          clear hlx0 hCx0
          rw [List.length_map] at H6 ⊢
          go_upto_region 16 with (fail)
          have hb67 := HB7.out.1
          have hz := HZ.out
          have hz3 := HZ3.out
          have hzr := blk_lt HM.out.1
          have hz5 := H5.out.2.2.size
          have hz6 := H6.out.2.2.2.size
          have hxf : (x ++ fill).length = x.length + 8 := by rw [List.length_append]; rfl
          have hs5 : Kd.C (Kd.int .u8) w5 A5 (x ++ fill).length (ints (x ++ fill)) := by rw [hxf]; exact H5.out.2.1
          have K9 := setTwo wc w3.heap.size (.slice A7 q.length c7) (.int .i64 e1)
          have M9 := blk_set (blk_set HM7.out 0 (.slice A7 q.length c7)) 1 (.int .i64 e1)
          simp only [List.setIfInBounds_toArray, List.set_cons_zero, List.set_cons_succ] at M9
          have hbw : Below w.heap.size w wc := below_step H67.out.2.1 hb67
          have B9 := (hbw.setCell (p := ⟨w3.heap.size, 0, none⟩) (by show w.heap.size ≤ w3.heap.size; omega) (.slice A7 q.length c7)).setCell (p := ⟨w3.heap.size, 1, none⟩) (by show w.heap.size ≤ w3.heap.size; omega) (.int .i64 e1)
          have D9 := (H6.out.2.1.below hb67).setK HM7.out (fun z e => by cases e) K9 (by omega)
          have C9 := rowK HM7.out (fun z e => by cases e) K9 q A7 H7.out.2
          have S9 := rowK HM7.out (fun z e => by cases e) K9 (x ++ fill) A5 (Kd.C_below (rowK (HD.out.below H5.out.2.2).blk (fun z e => by cases e) H6.out.2.2.2 (x ++ fill) A5 hs5) hb67)
          rw [hxf] at S9
          have R9 := Kd.R_reads' (Kd.R_step (Kd.R_bound (Kd.R_below H6.out.1 hb67)) (fun k hk hlt => K9.block k hlt (fun e => by have h := hk.2.1; omega)))
          have V9 := Kd.R_reads' (Kd.R_step (Kd.R_bound HV.out) (fun k hk hlt => K9.block k hlt (fun e => by have h := hk.2.1; omega)))
          rw [List.length_map] at R9 V9
          clear m0 m1 m2 m3 g0 g1 g2 g3 K9 hs5 hbw
          generalize World.setCell (World.setCell wc _ _) _ _ = W9 at *
          have HSR := Aside0.mk (fun (W : World) (hb : Below W9.heap.size W9 W) => (SameRows_calls Ax Av cx cv o.length o W rfl (Kd.C_below R9.2.2 hb) R9.2.1 (Kd.C_below V9.2.2 hb) V9.2.1 (fun l hl => by have h1 := HEA.out l hl; have h2 := HXL.out; omega) (by have h1 := HDL.out.2; have h2 := HXL.out; omega)).mono (fun e w' ⟨h1, h2⟩ => (⟨h1, below_step hb h2⟩ : e = Ending.returned (.bool true) ∧ Below W9.heap.size W9 w')))
          have HDE := Aside0.mk (fun (W : World) (hb : Below W9.heap.size W9 W) (b : Bool) (h : (e1 != 0) = b) => Dead_calls w2.heap.size q e1 A6 c6 W (D9.below hb) b h)
          have HHE := Aside0.mk (fun (W : World) (hb : Below W9.heap.size W9 W) => Held_calls w2.heap.size q e1 A6 c6 W (D9.below hb))
          have HSQ := Aside0.mk (fun (W : World) (hb : Below W9.heap.size W9 W) => (Spare_calls B cb x W (Kd.C_below (Kd.C_below HX0.out.2 B9) hb) HX.out.1 (by have := HXL.out; omega)).mono (fun e w' ⟨A', c', h1, h2, h3, h4⟩ => (⟨A', c', h1, h2, h3, below_step hb h4⟩ : ∃ A' c', e = Ending.returned (.slice A' (x.length + 8) c') ∧ x.length + 8 ≤ c' ∧ Kd.C (Kd.int .u8) w' A' (x.length + 8) (ints (x ++ fill)) ∧ Below W9.heap.size W9 w')))
          have HSB := Aside0.mk (fun (W : World) (A' : Option Addr) (c' : Nat) (hb : Below W9.heap.size W9 W) (h1 : x.length + 8 ≤ c') (h2 : Kd.C (Kd.int .u8) W A' (x.length + 8) (ints (x ++ fill))) => (Same_calls A5 A' c5 c' (x.length + 8) (x ++ fill) W hxf (Kd.C_below S9 hb) H5.out.1 h2 h1 (by have := HXL.out; omega)).mono (fun e w' ⟨h1, h2⟩ => (⟨h1, below_step hb h2⟩ : e = Ending.returned (.bool true) ∧ Below W9.heap.size W9 w')))
          have hc9 := (B9.cell (World.block_lt_of_cell? w _ HX0.out.1)).trans HX0.out.1
          obtain ⟨m0, m1, m2, m3⟩ := cellTwo M9
          have H9 := Aside0.mk (And.intro M9 (And.intro B9 (And.intro D9 C9)))
          clear M9 B9 D9 C9 S9 R9 V9 hz hz3 hzr hz5 hz6 hb67 hxf
          go_cut [88] (fun v88 wx => v88 = .bool false ∧ Aside0 (Below W9.heap.size W9 wx))
          case first =>
            by_cases he : e1 = 0
            · subst he
              go_region_held3 (fun w' => w'.cell? ⟨w3.heap.size, 0, none⟩ = some (.slice A7 q.length c7) ∧ w'.cell? ⟨w3.heap.size, 1, none⟩ = some (.int .i64 0) ∧ w'.cell? (ad.add i) = some (.slice B x.length cb)) (first | exact ⟨m0, m1, hc9⟩ | exact keep3 HQ3.out m0 m1 hc9 | exact keep3 HQ2.out m0 m1 hc9 | exact keep3 HQ1.out m0 m1 hc9 | (trace_state; fail)) (first | (go_at_call 10; refine (HSR.out _ ?_).mono ?_; (first | exact below_drew (Below.refl _ _) | exact HQ1.out | exact HQ2.out | exact below_drew HQ1.out); rintro e w10 ⟨rfl, hq1⟩; have HQ1 := Aside0.mk hq1; clear hq1) | (go_at_call 11; refine (HDE.out _ ?_ false rfl).mono ?_; (first | exact below_drew (Below.refl _ _) | exact HQ1.out | exact HQ2.out | exact below_drew HQ1.out); rintro e wy ⟨rfl, rfl⟩) | (go_at_call 12; refine (HHE.out _ ?_).mono ?_; (first | exact below_drew (Below.refl _ _) | exact HQ1.out | exact HQ2.out | exact below_drew HQ1.out); rintro e wy ⟨rfl, rfl⟩) | (go_at_call 7; refine (HSQ.out _ ?_).mono ?_; (first | exact below_drew (Below.refl _ _) | exact HQ1.out | exact HQ2.out | exact below_drew HQ1.out); rintro e w11 ⟨A11, c11, rfl, hl11, hC11, hq2⟩; have HQ2 := Aside0.mk hq2; have H11 := Aside0.mk (And.intro hl11 hC11); clear hl11 hC11 hq2) | (go_at_call 13; refine (HSB.out _ A11 c11 ?_ H11.out.1 H11.out.2).mono ?_; (first | exact below_drew (Below.refl _ _) | exact HQ1.out | exact HQ2.out | exact below_drew HQ1.out); rintro e w12 ⟨rfl, hq3⟩; have HQ3 := Aside0.mk hq3; clear hq3))
              all_goals (try go_wp2_with (fail))
              all_goals go_meet
              all_goals exact ⟨rfl, HQ3⟩
            · have hb0 : (e1 == 0) = false := by simpa using he
              have hb1 : (e1 != 0) = true := by simpa using he
              have hb2 : (e1 == e1) = true := by simp
              have HBE := Aside0.mk hb1
              clear he
              go_region_held3 (fun w' => w'.cell? ⟨w3.heap.size, 0, none⟩ = some (.slice A7 q.length c7) ∧ w'.cell? ⟨w3.heap.size, 1, none⟩ = some (.int .i64 e1) ∧ w'.cell? (ad.add i) = some (.slice B x.length cb)) (first | exact ⟨m0, m1, hc9⟩ | exact keep3 HQ3.out m0 m1 hc9 | exact keep3 HQ2.out m0 m1 hc9 | exact keep3 HQ1.out m0 m1 hc9 | (trace_state; fail)) (first | (go_at_call 10; refine (HSR.out _ ?_).mono ?_; (first | exact below_drew (Below.refl _ _) | exact HQ1.out | exact HQ2.out | exact below_drew HQ1.out); rintro e w10 ⟨rfl, hq1⟩; have HQ1 := Aside0.mk hq1; clear hq1) | (go_at_call 11; refine (HDE.out _ ?_ true HBE.out).mono ?_; (first | exact below_drew (Below.refl _ _) | exact HQ1.out | exact HQ2.out | exact below_drew HQ1.out); rintro e wy ⟨rfl, rfl⟩) | (go_at_call 12; refine (HHE.out _ ?_).mono ?_; (first | exact below_drew (Below.refl _ _) | exact HQ1.out | exact HQ2.out | exact below_drew HQ1.out); rintro e wy ⟨rfl, rfl⟩) | (go_at_call 7; refine (HSQ.out _ ?_).mono ?_; (first | exact below_drew (Below.refl _ _) | exact HQ1.out | exact HQ2.out | exact below_drew HQ1.out); rintro e w11 ⟨A11, c11, rfl, hl11, hC11, hq2⟩; have HQ2 := Aside0.mk hq2; have H11 := Aside0.mk (And.intro hl11 hC11); clear hl11 hC11 hq2) | (go_at_call 13; refine (HSB.out _ A11 c11 ?_ H11.out.1 H11.out.2).mono ?_; (first | exact below_drew (Below.refl _ _) | exact HQ1.out | exact HQ2.out | exact below_drew HQ1.out); rintro e w12 ⟨rfl, hq3⟩; have HQ3 := Aside0.mk hq3; clear hq3))
              all_goals (try go_wp2_with (fail))
              all_goals go_meet
              all_goals exact ⟨rfl, HQ3⟩
          case rest =>
            obtain ⟨rfl, HB10⟩ := hcut
            have hi200 : i ≤ 200 := by have h1 := HI.out.1; have h2 := HL.out.1; omega
            go_wp2_with (fail)
            obtain ⟨G, rfl⟩ : ∃ G, gk = G + 1 := ⟨gk - 1, by have := HI.out; omega⟩
            go_roundg G
            case measure => omega
            case rel =>
              have hi := HI.out
              refine ⟨i + 1, q, e1, A6, c6, A7, c7, by go_num, ⟨by omega, by omega⟩, ⟨H9.out.2.2.1.below HB10.out⟩, ⟨(HB10.out.block _ (blk_lt H9.out.1)).trans H9.out.1, H7.out.1, Kd.C_below H9.out.2.2.2 HB10.out⟩, ⟨below_step H9.out.2.1 HB10.out⟩, ⟨?_, HFS.out⟩⟩
              have h1 := HDL.out.1
              have h2 := HST.out.1
              have h3 := HS.out.1
              omega
      · have hlb : decide ((i : Int) < (ps.length : Int)) = false := decide_eq_false (by omega)
        go_wp2_with (fail)
        go_ret
        exact ⟨rfl, HB.out⟩
end Go.Proofs.YtomebmjjgkcjiaaGreatDoor.G
