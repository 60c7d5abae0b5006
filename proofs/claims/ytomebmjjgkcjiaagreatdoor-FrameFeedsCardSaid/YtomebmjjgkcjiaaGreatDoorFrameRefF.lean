/-
  The document's Feed: its contract.
-/
import Derived.Test.YtomebmjjgkcjiaaGreatDoorFrameRefL
import Derived.Test.YtomebmjjgkcjiaaGreatDoorFrameAll
import Derived.RegionTactic
import Derived.BigRegion
import Derived.ChangeAlike
import Derived.Deep.RegionLaw
set_option linter.unusedVariables false
namespace Go.Proofs.YtomebmjjgkcjiaaGreatDoor.G
open Go.RowKit Go.Proofs.YtomebmjjgkcjiaaGreatDoorW.PrintWords Go.Lib
theorem lenOf_crlf : lenOf crlf = (0, 30) := by decide
theorem head_len (r : List UInt8) (n : Nat) (hn : n ≠ 0) (h : headOf r = ((n : Int), 0)) : ∃ R ls, r.take n = R ++ crlf ∧ R.length + 2 = n ∧ Lines ls R ∧ lenOf (r.take n) = if refLen (-1) ls < 0 then (0, 30) else if 65536 < refLen (-1) ls then (0, 31) else (refLen (-1) ls, 0) := by
  have hr := headOf_range r
  rw [h] at hr
  simp only at hr
  have hN : headN (r.take 1024) = (n : Int) := by
    unfold headOf at h
    split at h
    · simp at h
    · exact (Prod.mk.inj h).1
  unfold headN at hN
  by_cases hp : hasPrefix (r.take 1024) crlf = true
  · rw [if_pos hp] at hN
    have hn2 : n = 2 := by omega
    subst hn2
    have ht : r.take 2 = crlf := by
      obtain ⟨t, ht⟩ := List.isPrefixOf_iff_prefix.1 hp
      have : (r.take 1024).take 2 = crlf := by rw [← ht]; rfl
      rw [List.take_take] at this
      exact this
    rw [ht]
    exact ⟨[], [], rfl, rfl, Lines.nil, by rw [lenOf_crlf]; rfl⟩
  · rw [if_neg hp] at hN
    by_cases hi : 0 ≤ index (r.take 1024) ends
    · rw [if_pos hi] at hN
      rcases index_spec (r.take 1024) ends with ⟨h1, _⟩ | ⟨i, h1, h2, h3, h4⟩
      · omega
      · have hni : n = i + 4 := by omega
        subst hni
        have hT : r.take (i + 4) = r.take i ++ ends := by
          unfold occAt at h3
          obtain ⟨t, ht⟩ := List.isPrefixOf_iff_prefix.1 h3
          have e1 : r.take (i + 4) = (r.take 1024).take (i + 4) := by rw [List.take_take]; congr 1; omega
          have e2 : r.take i = (r.take 1024).take i := by rw [List.take_take]; congr 1; omega
          rw [e1, e2]
          conv => lhs; rw [← List.take_append_drop i (r.take 1024), ← ht]
          have hl : ((r.take 1024).take i).length = i := by rw [List.length_take]; omega
          rw [List.take_append, List.take_of_length_le (by omega), hl, show i + 4 - i = 4 by omega]
          congr 1
        have hTl : (r.take i).length = i := by rw [List.length_take]; omega
        refine ⟨r.take i ++ crlf, splitC (r.take i), by rw [hT, List.append_assoc]; rfl, by rw [List.length_append, hTl]; rfl, lines_of _ _ (Nat.lt_succ_self _), ?_⟩
        rw [hT]
        unfold lenOf
        rw [trimSuffix_end, refLen_eq _ _ (by decide)]
        cases lenGo (-1) (splitC (r.take i)) with
        | none => rfl
        | some f => rfl
    · rw [if_neg hi] at hN
      omega
set_option maxHeartbeats 4000000 in
set_option maxRecDepth 100000 in
theorem RefFeed_dead (e0 : Int) (B : Option Addr) (c0 n cb : Nat) (A0 : Option Addr) (w : World) (he : e0 ≠ 0) :
    Calls Tryz.prog 9 #[.agg #[.slice A0 0 c0, .int .i64 e0], .slice B n cb] w fun e w' => e = .returned (.tuple #[.agg #[.slice A0 0 c0, .int .i64 e0], .slice none 0 0, .int .i64 e0]) ∧ Below w.heap.size w w' := by
  have hb : (e0 != 0) = true := by simpa using he
  go_enter Tryz.func9, Tryz.ntmps9
  go_wp2_with (fail)
  go_region
  all_goals
    go_wp2_with (fail)
    exact bodyPost_ret (v := .tuple #[.agg #[.slice A0 0 c0, .int .i64 e0], .slice none 0 0, .int .i64 e0]) (by simp [results, Tryz.f9, go_sem]) rfl ⟨rfl, below_drew (below_alloc (below_alloc (Below.refl _ _) _) _)⟩
theorem nextL_err (r : List UInt8) (h : (headOf r).2 ≠ 0) : nextL r = (none, r, 30) := by
  have h1 : (headOf r).2 = 30 := by
    unfold headOf at h ⊢
    split
    · rfl
    · rename_i hh; rw [if_neg hh] at h; exact absurd rfl h
  unfold nextL
  rw [if_pos (.inr h), h1]
theorem nextL_zero (r : List UInt8) (h : headOf r = (0, 0)) : nextL r = (none, r, 0) := by
  unfold nextL
  rw [h, if_pos (.inl rfl)]
theorem nextL_head (r : List UInt8) (n : Nat) (hn : n ≠ 0) (h : headOf r = ((n : Int), 0)) (q : Int) (hq : lenOf (r.take n) = if q < 0 then (0, 30) else if 65536 < q then (0, 31) else (q, 0)) :
    nextL r = if q < 0 then (none, r, 30) else if 65536 < q then (none, r, 31) else if (r.length : Int) < (n : Int) + q then (none, r, 0) else (some ((r.drop n).take q.toNat), r.drop (n + q.toNat), 0) := by
  unfold nextL
  rw [h, if_neg (by omega)]
  simp only [Int.toNat_natCast]
  rw [hq]
  by_cases h1 : q < 0
  · rw [if_pos h1, if_pos h1, if_pos (.inl (by decide))]
  · rw [if_neg h1, if_neg h1]
    by_cases h2 : 65536 < q
    · rw [if_pos h2, if_pos h2, if_pos (.inl (by decide))]
    · rw [if_neg h2, if_neg h2]
      by_cases h3 : (r.length : Int) < (n : Int) + q
      · rw [if_pos (.inr h3), if_pos h3]
      · rw [if_neg (by rintro (e | e); exact e rfl; exact h3 e), if_neg h3]
theorem keepC {W w : World} {g : Nat} {A : Option Addr} {n : Nat} {l : List Int} (hk : KeepX (fun i => i = g) W w) (h : Kd.C (Kd.int .u8) W A n l) (hg : ∀ a, A = some a → 0 < n → a.block ≠ g) : Kd.C (Kd.int .u8) w A n l :=
  Kd.C_keep (0 : Int) h ⟨hk.size, fun i hi hx _ => hk.block i hi hx⟩ hg
theorem cell2 {W : World} {b T : Nat} {x y : Value} (h : W.heap[b]? = some (.cells #[x, y] T (0, 0))) : W.cell? ⟨b, 0, none⟩ = some x ∧ W.cell? ⟨b, 1, none⟩ = some y ∧ W.frozen? ⟨b, 0, none⟩ = false ∧ W.frozen? ⟨b, 1, none⟩ = false := by
  refine ⟨?_, ?_, frozenB h 0, frozenB h 1⟩
  · rw [cellB h]; rfl
  · rw [cellB h]; rfl
theorem cutM (Ar : Option Addr) (r : List UInt8) (cr n l : Nat) (hm : n + l ≤ r.length) (hr : r.length ≤ cr) {W : World} (hC : Kd.C (Kd.int .u8) W Ar r.length (ints r)) :
    ∃ Am, (∀ w : World, (Instr.slice 27 (.slice Ar r.length cr) (some (.int .i64 n)) (some (.int .i64 ((n : Int) + (l : Int)))) none).run Tryz.prog w = .ok (.slice Am l (cr - n)) w) ∧ Kd.C (Kd.int .u8) W Am l (ints ((r.drop n).take l)) := by
  obtain ⟨i0, hi, hz0, hz1, hz2⟩ := info_parts info8
  have hl : (((r.take (n + l)).drop n)).length = l := by rw [List.length_drop, List.length_take]; omega
  have e : (r.drop n).take l = (r.take (n + l)).drop n := by
    have e1 : n + l - n = l := Nat.add_sub_cancel_left n l
    rw [List.drop_take, e1]
  have h1 := fun w => cut_mid (P := Tryz.prog) 27 5 .i64 .i64 Tryz.underlying27 hi 1 hz1 Ar r.length cr (n : Int) ((n : Int) + (l : Int)) (by omega) (by omega) (by omega) hr w
  have h2 := Kd.C_mid (k := Kd.int .u8) (w := W) (A := Ar) (c := cr) (xs := ints r) (lo := n) (hi := n + l) (by rw [ints_length]; exact hC) (by omega) (by rw [ints_length]; exact hm) (by rw [ints_length]; exact hr)
  rw [← ints_take, ← ints_drop, ints_length, hl, ← e] at h2
  refine ⟨_, fun w => ?_, h2⟩
  have h3 := h1 w
  rw [Int.toNat_natCast, show ((n : Int) + (l : Int)).toNat = n + l by omega, show n + l - n = l by omega] at h3
  exact h3
theorem keepC2 {W w : World} {g h : Nat} {A : Option Addr} {n : Nat} {l : List Int} (hk : KeepX (fun i => i = g ∨ i = h) W w) (hC : Kd.C (Kd.int .u8) W A n l) (hg : ∀ a, A = some a → 0 < n → a.block ≠ g ∧ a.block ≠ h) : Kd.C (Kd.int .u8) w A n l := by
  obtain ⟨r1, r2, r3⟩ := Kd.reads_of_C (d := (0 : Int)) hC
  refine Kd.C_of_reads (d := (0 : Int)) (h1 := fun _ => rfl) ⟨r1, r2, fun hp => ?_⟩
  obtain ⟨ad, e, hc⟩ := r3 hp
  refine ⟨ad, e, fun j hj => ?_⟩
  have hcj := hc j hj
  obtain ⟨h1, h2⟩ := hg ad e hp
  have hb : (ad.add j).block = ad.block := by unfold Addr.add; split <;> rfl
  have hlt := World.block_lt_of_cell? W _ hcj
  rw [← hcj]
  unfold World.cell?
  rw [hk.block _ hlt (by rw [hb]; rintro (e | e); exact h1 e; exact h2 e)]
/-- A row of bytes is not in a block whose first cell is a slice. -/
theorem notSlice {W : World} {b T pn pc : Nat} {P : Option Addr} {y : Value} (h : W.heap[b]? = some (.cells #[.slice P pn pc, y] T (0, 0))) (hy : ∀ z, y ≠ .int .u8 z) (r : List UInt8) (A : Option Addr) (hC : Kd.C (Kd.int .u8) W A r.length (ints r)) : ∀ a, A = some a → 0 < r.length → a.block ≠ b := by
  rintro a rfl hp e
  obtain ⟨_, _, r3⟩ := Kd.reads_of_C (d := (0 : Int)) hC
  obtain ⟨ad, ea, hc⟩ := r3 hp
  simp only [Option.some.injEq] at ea
  subst ea
  have h0 := hc 0 hp
  have e0 : a.add 0 = a := by cases a; simp [Addr.add]
  rw [e0] at h0
  unfold World.cell? at h0
  rw [e, h] at h0
  cases a with
  | mk blk off mp =>
    cases mp with
    | none =>
      match off, h0 with
      | 0, h0 => simp at h0
      | 1, h0 => simp at h0; exact hy _ h0
      | o + 2, h0 => simp at h0
    | some k => simp at h0
set_option maxHeartbeats 8000000 in
set_option maxRecDepth 100000 in
theorem RefFeed_calls (rest s z : List UInt8) (hzz : z = rest ++ s) (A0 B : Option Addr) (c0 cb : Nat) (w : World) (hC0 : Kd.C (Kd.int .u8) w A0 rest.length (ints rest)) (hc0 : rest.length ≤ c0) (hC : Kd.C (Kd.int .u8) w B s.length (ints s)) (hcb : s.length ≤ cb) (hl : rest.length + s.length < 4000000000) :
    Calls Tryz.prog 9 #[.agg #[.slice A0 rest.length c0, .int .i64 0], .slice B s.length cb] w fun e w' => ∃ A' c' Av cv, e = .returned (.tuple #[.agg #[.slice A' (feedL z).2.1.length c', .int .i64 (feedL z).2.2], .slice Av (feedL z).1.length cv, .int .i64 (feedL z).2.2]) ∧ (feedL z).2.1.length ≤ c' ∧ Kd.C (Kd.int .u8) w' A' (feedL z).2.1.length (ints (feedL z).2.1) ∧ (feedL z).1.length ≤ cv ∧ Kd.C (Kd.slice 5 (Kd.int .u8)) w' Av (feedL z).1.length ((feedL z).1.map ints) ∧ OwnRows w' w.heap.size (.slice Av (feedL z).1.length cv) ((feedL z).1.map ints) ∧ Below w.heap.size w w' := by
  have HC := Aside0.mk (And.intro hC0 (And.intro hc0 (And.intro hC (And.intro hcb hl))))
  have hWb := below_alloc (below_alloc (Below.refl w.heap.size w) (.cells #[.slice A0 rest.length c0, .int .i64 0] 30)) (.cells #[.slice none 0 0, .int .i64 0] 30)
  have HWB := Aside0.mk hWb
  have HW2 := Aside0.mk (show ((w.alloc (.cells #[.slice A0 rest.length c0, .int .i64 0] 30)).alloc (.cells #[.slice none 0 0, .int .i64 0] 30)).heap[w.heap.size]? = some (.cells #[.slice A0 rest.length c0, .int .i64 0] 30 (0, 0)) from by
    rw [Below.heap_alloc _ _ _ (by simp)]
    exact World.alloc_heap_new w _)
  have HW4 := Aside0.mk (show ((w.alloc (.cells #[.slice A0 rest.length c0, .int .i64 0] 30)).alloc (.cells #[.slice none 0 0, .int .i64 0] 30)).heap[w.heap.size + 1]? = some (.cells #[.slice none 0 0, .int .i64 0] 30 (0, 0)) from by
    have := World.alloc_heap_new (w.alloc (.cells #[.slice A0 rest.length c0, .int .i64 0] 30)) (.cells #[.slice none 0 0, .int .i64 0] 30)
    rw [World.size_alloc] at this
    exact this)
  have HWS := Aside0.mk (show ((w.alloc (.cells #[.slice A0 rest.length c0, .int .i64 0] 30)).alloc (.cells #[.slice none 0 0, .int .i64 0] 30)).heap.size = w.heap.size + 2 by simp)
  clear hC0 hc0 hC hcb hl hWb
  go_enter Tryz.func9, Tryz.ntmps9
  go_wp2_with (fail)
  generalize hW : World.alloc (World.alloc w _) _ = W at *
  clear hW
  refine (Copy_calls A0 c0 rest W (Kd.C_below HC.out.1 HWB.out) HC.out.2.1 (by have := HC.out.2.2.2.2; omega)).mono ?_
  rintro e w1 ⟨A1, c1, rfl, hr1, hb1⟩
  have hb2 : w1.heap[w.heap.size]? = _ := (hb1.block w.heap.size (by have := HWS.out; omega)).trans HW2.out
  have hb4 : w1.heap[w.heap.size + 1]? = _ := (hb1.block (w.heap.size + 1) (by have := HWS.out; omega)).trans HW4.out
  have H1 := Aside0.mk (And.intro hr1 (And.intro hb1 (And.intro hb2 hb4)))
  have HB1 := Aside0.mk (below_step HWB.out hb1)
  have hl9 : rest.length + s.length < 4000000000 := HC.out.2.2.2.2
  clear hr1 hb1 hb2 hb4
  go_wp2_with (at_builtin; refine Kd.R_append_rows (Kd.int .u8) (w0 := w1) W.heap.size rfl (.tmp 20) (.tmp 21) 27 5 (.int .u8 0) 1 rfl Tryz.underlying27 info8 rfl (by decide) (by decide) (.slice A1 rest.length c1) (ints rest) (ints s) B _ _ (fun _ => True) (fun _ => False) rfl rfl H1.out.1 ?aR (fun _ _ h => h) (fun _ h => h.elim) (fun _ _ => trivial) (Below.refl _ _) H1.out.2.1.size ?aL ?_; (case aR => exact Kd.C_below HC.out.2.2.1 HB1.out); (case aL => rw [ints_length]; omega); intro v2 w2 hr2 hb2 hg2 _; obtain ⟨A2, c2, rfl, hlc2, hC2⟩ := Kd.R_reads hr2; have hx1 := HWS.out; have k2 := (hg2.block w.heap.size (by have := H1.out.2.1.size; omega) (fun e => by have := Kd.R_base H1.out.1 _ e.symm; omega)).trans H1.out.2.2.1; have k4 := (hg2.block (w.heap.size + 1) (by have := H1.out.2.1.size; omega) (fun e => by have := Kd.R_base H1.out.1 _ e.symm; omega)).trans H1.out.2.2.2; have k20 := cellB k2 0; have k21 := frozenB k2 0; have H2 := Aside0.mk (And.intro hr2 (And.intro hlc2 (And.intro hC2 (And.intro k2 (And.intro k4 hg2))))); clear hr2 hb2 hg2 hlc2 hC2 k2 k4 hx1)
  have e12 : (ints rest).length + (ints s).length = z.length := by rw [hzz, ints_length, ints_length, List.length_append]
  obtain ⟨hr2, hlc2, hC2, k2, k4, hg2⟩ := H2.out
  have e13 : (ints rest ++ ints s).length = z.length := by rw [List.length_append]; exact e12
  rw [e13, ← ints_append, ← hzz] at hC2
  rw [e13] at hlc2
  have hR0 := R_empty (Kd.slice 5 (Kd.int .u8)) 27 w2.heap.size (w2.setCell ⟨w.heap.size, 0, none⟩ (.slice A2 z.length c2)) (by simp [World.setCell])
  have hsz : (w2.setCell ⟨w.heap.size, 0, none⟩ (.slice A2 z.length c2)).heap.size = w2.heap.size := by simp [World.setCell]
  rw [hsz] at hR0
  have hbs := blk_set k2 0 (.slice A2 z.length c2)
  have hbs4 := blk_far (p := ⟨w.heap.size, 0, none⟩) k4 (by show w.heap.size + 1 ≠ w.heap.size; omega) (.slice A2 z.length c2)
  have hAb : ∀ a, A2 = some a → 0 < z.length → a.block ≠ w.heap.size := by
    rintro a rfl _ e
    have h1 := Kd.R_base hr2 a.block rfl
    have h2 := HWS.out
    omega
  have hCs := Kd.C_keep (0 : Int) hC2 ((KeepBut.refl w2 w.heap.size none).set_ 0 (.slice A2 z.length c2)) hAb
  have hBw2 : Below w.heap.size w w2 := HB1.out.grown hg2 HB1.out.size (fun k e => by have := Kd.R_base H1.out.1 k e; have := HWS.out; omega)
  have hBs := hBw2.setCell (p := ⟨w.heap.size, 0, none⟩) (Nat.le_refl _) (.slice A2 z.length c2)
  have hlt2 : w.heap.size + 1 < w2.heap.size := by have := blk_lt k4; exact this
  have HL := Aside0.mk (And.intro hlc2 (And.intro hCs (And.intro hAb (And.intro hbs (And.intro hbs4 hBs)))))
  have HR0 := Aside0.mk hR0
  have HLT := Aside0.mk hlt2
  have HSZ := Aside0.mk hsz
  rw [e12]
  clear e12 e13 hr2 hlc2 hC2 k2 k4 hg2 hR0 hsz hbs hbs4 hAb hCs hBw2 hBs hlt2 H2 k20 k21
  generalize hX : w2.setCell ⟨w.heap.size, 0, none⟩ (.slice A2 z.length c2) = X at *
  clear hX
  have HF := Aside0.mk (show feedL z = ([] ++ (feedL z).1, (feedL z).2.1, (feedL z).2.2) from rfl)
  have hN : z.length < 4000000000 := by rw [hzz, List.length_append]; exact hl9
  clear hzz
  have HNN := Aside0.mk hN
  clear hN hl9
  go_loopg [8, 9, 10] (z.length + 1) (fun gk v8 _ _ wx => ∃ (done : List (List UInt8)) (r : List UInt8) (Ar : Option Addr) (cr : Nat), Aside0 (feedL z = (done ++ (feedL r).1, (feedL r).2.1, (feedL r).2.2)) ∧ Aside0 (wx.heap[w.heap.size]? = some (.cells #[.slice Ar r.length cr, .int .i64 0] 30 (0, 0)) ∧ wx.heap[w.heap.size + 1]? = some (.cells #[.slice none 0 0, .int .i64 0] 30 (0, 0))) ∧ Aside0 (r.length ≤ cr ∧ Kd.C (Kd.int .u8) X Ar r.length (ints r) ∧ ∀ a, Ar = some a → 0 < r.length → a.block ≠ w.heap.size) ∧ Aside0 (OwnRows wx w2.heap.size v8 (done.map ints)) ∧ Aside0 (KeepX (fun i => i = w.heap.size) X wx ∧ w2.heap.size ≤ wx.heap.size) ∧ Aside0 (r.length < gk ∧ done.length + r.length ≤ z.length))
  case atStart =>
    refine ⟨[], z, A2, c2, HF, ⟨?_, ?_⟩, ⟨HL.out.1, HL.out.2.1, HL.out.2.2.1⟩, HR0, ⟨KeepX.of_below (below_alloc (Below.refl _ _) _), by rw [World.size_alloc, HSZ.out]; omega⟩, ⟨by omega, by simp⟩⟩
    · rw [Below.heap_alloc _ _ _ (by rw [HSZ.out]; have := HLT.out; omega)]
      exact HL.out.2.2.2.1
    · rw [Below.heap_alloc _ _ _ (by rw [HSZ.out]; have := HLT.out; omega)]
      exact HL.out.2.2.2.2.1
  case round =>
    obtain ⟨done, r, Ar, cr, HFr, HBK, HCr, HO, HK, HM⟩ := hrel
    obtain ⟨Av, cv, rfl, hlv, hCv⟩ := Kd.R_reads HO.out
    rw [List.length_map] at hlv hCv HO ⊢
    have HV := Aside0.mk hlv
    clear hlv hCv
    have HA4 := Aside0.mk (fun (q : List UInt8) (Aq : Option Addr) (hq : Kd.C (Kd.int .u8) X Aq q.length (ints q)) => notSlice HL.out.2.2.2.2.1 (fun z e => by cases e) q Aq hq)
    have HA2 := Aside0.mk (fun (q : List UInt8) (Aq : Option Addr) (hq : Kd.C (Kd.int .u8) X Aq q.length (ints q)) => notSlice (P := A2) (pn := z.length) (pc := c2) (y := .int .i64 0) HL.out.2.2.2.1 (fun z e => by cases e) q Aq hq)
    have k20 := cellB HBK.out.1 0
    have k21 := cellB HBK.out.1 1
    have k40 := cellB HBK.out.2 0
    have k41 := cellB HBK.out.2 1
    have f20 := frozenB HBK.out.1 0
    have f21 := frozenB HBK.out.1 1
    have f40 := frozenB HBK.out.2 0
    have f41 := frozenB HBK.out.2 1
    simp only [List.getElem?_toArray, List.getElem?_cons_zero, List.getElem?_cons_succ] at k20 k21 k40 k41
    have hCw : Kd.C (Kd.int .u8) wr Ar r.length (ints r) := keepC HK.out.1 HCr.out.2.1 HCr.out.2.2
    have HCW := Aside0.mk hCw
    have HBw := Aside0.mk (show Below w.heap.size w wr from HL.out.2.2.2.2.2.trans (HK.out.1.below HL.out.2.2.2.2.2.size (fun k hk e => by omega)))
    clear hCw
    have HHD := Aside0.mk (Head_ref Ar cr r wr HCW.out HCr.out.1 (by have := HM.out.2; have := HNN.out; omega))
    have hgr := headOf_range r
    have hh2 : headV r = if (headOf r).2 ≠ 0 then -1 else (headOf r).1 := rfl
    by_cases herr : (headOf r).2 ≠ 0
    · have HNE := Aside0.mk (nextL_err r herr)
      have hv : headV r = -1 := by rw [hh2, if_pos herr]
      rw [hv] at HHD
      clear hgr hh2 herr hv
      go_wp2_with (go_at_call 18; refine HHD.out.mono ?_; rintro e w5 ⟨rfl, hb5⟩; have q20 := (hb5.cell (World.block_lt_of_cell? wr _ k20)).trans k20; have q21 := (hb5.cell (World.block_lt_of_cell? wr _ k21)).trans k21; have q40 := (hb5.cell (World.block_lt_of_cell? wr _ k40)).trans k40; have q41 := (hb5.cell (World.block_lt_of_cell? wr _ k41)).trans k41; have g20 := (hb5.frozen (World.block_lt_of_cell? wr _ k20)).trans f20; have g21 := (hb5.frozen (World.block_lt_of_cell? wr _ k21)).trans f21; have g40 := (hb5.frozen (World.block_lt_of_cell? wr _ k40)).trans f40; have g41 := (hb5.frozen (World.block_lt_of_cell? wr _ k41)).trans f41; have HB5 := Aside0.mk hb5; clear hb5)
      have z2 := blk_set (blk_set ((HB5.out.block _ (blk_lt HBK.out.1)).trans HBK.out.1) 1 (.int .i64 30)) 0 (.slice none 0 0)
      have z4 := blk_far (p := ⟨w.heap.size, 0, none⟩) (blk_far (p := ⟨w.heap.size, 1, none⟩) ((HB5.out.block _ (blk_lt HBK.out.2)).trans HBK.out.2) (by show w.heap.size + 1 ≠ w.heap.size; omega) (.int .i64 30)) (by show w.heap.size + 1 ≠ w.heap.size; omega) (.slice none 0 0)
      simp only [List.setIfInBounds_toArray, List.set_cons_zero, List.set_cons_succ] at z2
      have zB := ((below_step HBw.out HB5.out).setCell (p := ⟨w.heap.size, 1, none⟩) (Nat.le_refl _) (.int .i64 30)).setCell (p := ⟨w.heap.size, 0, none⟩) (Nat.le_refl _) (.slice none 0 0)
      have zR : OwnRows ((w5.setCell ⟨w.heap.size, 1, none⟩ (.int .i64 30)).setCell ⟨w.heap.size, 0, none⟩ (.slice none 0 0)) w2.heap.size (.slice Av done.length cv) (done.map ints) := Kd.R_mono (Kd.R_step (Kd.R_bound (Kd.R_below HO.out HB5.out)) (fun i hi hlt => (Below.heap_setCell _ ⟨w.heap.size, 0, none⟩ _ i (by have h1 := hi.2.1; have h2 := HLT.out; show i ≠ w.heap.size; omega)).trans (Below.heap_setCell _ ⟨w.heap.size, 1, none⟩ _ i (by have h1 := hi.2.1; have h2 := HLT.out; show i ≠ w.heap.size; omega)))) (fun _ _ => trivial)
      clear k20 k21 k40 k41 f20 f21 f40 f41 q20 q21 q40 q41 g20 g21 g40 g41
      generalize World.setCell (World.setCell w5 _ _) _ _ = WE at *
      have k20 := cellB z2 0
      have k21 := cellB z2 1
      have k40 := cellB z4 0
      have k41 := cellB z4 1
      have f40 := frozenB z4 0
      have f41 := frozenB z4 1
      simp only [List.getElem?_toArray, List.getElem?_cons_zero, List.getElem?_cons_succ] at k20 k21 k40 k41
      have HZ := Aside0.mk (And.intro z4 (And.intro zB zR))
      clear z2 z4 zB zR
      go_region
      all_goals
        go_wp2_with (fail)
        have y4 := blk_set (blk_set HZ.out.1 0 (.slice none 0 0)) 1 (.int .i64 30)
        simp only [List.setIfInBounds_toArray, List.set_cons_zero, List.set_cons_succ] at y4
        have yB := below_drew ((HZ.out.2.1.setCell (p := ⟨w.heap.size + 1, 0, none⟩) (by show w.heap.size ≤ w.heap.size + 1; omega) (.slice none 0 0)).setCell (p := ⟨w.heap.size + 1, 1, none⟩) (by show w.heap.size ≤ w.heap.size + 1; omega) (.int .i64 30))
        have yR : OwnRows ((WE.setCell ⟨w.heap.size + 1, 0, none⟩ (.slice none 0 0)).setCell ⟨w.heap.size + 1, 1, none⟩ (.int .i64 30)).drew w2.heap.size (.slice Av done.length cv) (done.map ints) := Kd.R_drew (Kd.R_mono (Kd.R_step (Kd.R_bound HZ.out.2.2) (fun i hi hlt => (Below.heap_setCell _ ⟨w.heap.size + 1, 1, none⟩ _ i (by have h1 := hi.2.1; have h2 := HLT.out; show i ≠ w.heap.size + 1; omega)).trans (Below.heap_setCell _ ⟨w.heap.size + 1, 0, none⟩ _ i (by have h1 := hi.2.1; have h2 := HLT.out; show i ≠ w.heap.size + 1; omega)))) (fun _ _ => trivial))
        have y4' : ((WE.setCell ⟨w.heap.size + 1, 0, none⟩ (.slice none 0 0)).setCell ⟨w.heap.size + 1, 1, none⟩ (.int .i64 30)).drew.heap[w.heap.size + 1]? = some (.cells #[.slice none 0 0, .int .i64 30] 30 (0, 0)) := y4
        clear k20 k21 k40 k41 f40 f41 y4
        generalize World.drew (World.setCell (World.setCell WE _ _) _ _) = Wf at *
        have k40 := cellB y4' 0
        have k41 := cellB y4' 1
        simp only [List.getElem?_toArray, List.getElem?_cons_zero, List.getElem?_cons_succ] at k40 k41
        have yR2 := Kd.R_reads' yR
        rw [List.length_map] at yR2
        rw [HFr.out, feedL_none HNE.out, if_pos (by decide)]
        simp only [List.append_nil]
        exact bodyPost_ret (v := .tuple #[.agg #[.slice none 0 0, .int .i64 30], .slice Av done.length cv, .int .i64 30]) (by simp [results, Tryz.f9, go_sem, k40, k41]) rfl ⟨none, 0, Av, cv, rfl, Nat.le_refl _, Kd.C_nil _ _, HV.out, yR2.2.2, Kd.R_lower yR (by have := HLT.out; omega), yB⟩
    · have herr0 : (headOf r).2 = 0 := by
        by_cases h : (headOf r).2 = 0
        · exact h
        · exact absurd h herr
      obtain ⟨n, hn⟩ : ∃ n : Nat, (headOf r).1 = (n : Int) := ⟨(headOf r).1.toNat, by omega⟩
      have hho : headOf r = ((n : Int), 0) := by rw [← hn, ← herr0]
      have hv : headV r = (n : Int) := by rw [hh2, if_neg herr, hn]
      rw [hv] at HHD
      rw [hn] at hgr
      clear hh2 herr hv hn herr0
      by_cases hn0 : n = 0
      · subst hn0
        have HNE := Aside0.mk (nextL_zero r hho)
        clear hgr hho
        go_wp2_with (go_at_call 18; refine HHD.out.mono ?_; rintro e w5 ⟨rfl, hb5⟩; obtain ⟨q20, q21, g20, g21⟩ := cell2 ((hb5.block _ (blk_lt HBK.out.1)).trans HBK.out.1); obtain ⟨q40, q41, g40, g41⟩ := cell2 ((hb5.block _ (blk_lt HBK.out.2)).trans HBK.out.2); have HB5 := Aside0.mk hb5; clear hb5)
        clear k20 k21 k40 k41 f20 f21 f40 f41
        have z4 := (HB5.out.block _ (blk_lt HBK.out.2)).trans HBK.out.2
        have y4 := blk_set (blk_set z4 0 (.slice Ar r.length cr)) 1 (.int .i64 0)
        simp only [List.setIfInBounds_toArray, List.set_cons_zero, List.set_cons_succ] at y4
        have yB := ((below_step HBw.out HB5.out).setCell (p := ⟨w.heap.size + 1, 0, none⟩) (by show w.heap.size ≤ w.heap.size + 1; omega) (.slice Ar r.length cr)).setCell (p := ⟨w.heap.size + 1, 1, none⟩) (by show w.heap.size ≤ w.heap.size + 1; omega) (.int .i64 0)
        have yR : OwnRows ((w5.setCell ⟨w.heap.size + 1, 0, none⟩ (.slice Ar r.length cr)).setCell ⟨w.heap.size + 1, 1, none⟩ (.int .i64 0)) w2.heap.size (.slice Av done.length cv) (done.map ints) := Kd.R_mono (Kd.R_step (Kd.R_bound (Kd.R_below HO.out HB5.out)) (fun i hi hlt => (Below.heap_setCell _ ⟨w.heap.size + 1, 1, none⟩ _ i (by have h1 := hi.2.1; have h2 := HLT.out; show i ≠ w.heap.size + 1; omega)).trans (Below.heap_setCell _ ⟨w.heap.size + 1, 0, none⟩ _ i (by have h1 := hi.2.1; have h2 := HLT.out; show i ≠ w.heap.size + 1; omega)))) (fun _ _ => trivial)
        have yC : Kd.C (Kd.int .u8) ((w5.setCell ⟨w.heap.size + 1, 0, none⟩ (.slice Ar r.length cr)).setCell ⟨w.heap.size + 1, 1, none⟩ (.int .i64 0)) Ar r.length (ints r) := by
          have hx : KeepX (fun i => i = w.heap.size ∨ i = w.heap.size + 1) X ((w5.setCell ⟨w.heap.size + 1, 0, none⟩ (.slice Ar r.length cr)).setCell ⟨w.heap.size + 1, 1, none⟩ (.int .i64 0)) := by
            have k1 := (HK.out.1.mono (fun k _ hk => (.inl hk : k = w.heap.size ∨ k = w.heap.size + 1))).trans (KeepX.of_below HB5.out)
            have k2 : KeepX (fun i => i = w.heap.size ∨ i = w.heap.size + 1) w5 (w5.setCell ⟨w.heap.size + 1, 0, none⟩ (.slice Ar r.length cr)) := KeepX.setCell _ (.inr rfl) _
            have k3 : KeepX (fun i => i = w.heap.size ∨ i = w.heap.size + 1) (w5.setCell ⟨w.heap.size + 1, 0, none⟩ (.slice Ar r.length cr)) ((w5.setCell ⟨w.heap.size + 1, 0, none⟩ (.slice Ar r.length cr)).setCell ⟨w.heap.size + 1, 1, none⟩ (.int .i64 0)) := by
              have h := (Below.refl 0 (w5.setCell ⟨w.heap.size + 1, 0, none⟩ (.slice Ar r.length cr))).setCell (p := ⟨w.heap.size + 1, 1, none⟩) (Nat.zero_le _) (.int .i64 0)
              exact ⟨h.os, h.tape, h.output, h.size, fun k _ hx => Below.heap_setCell _ ⟨w.heap.size + 1, 1, none⟩ _ k (fun e => hx (.inr e))⟩
            exact (k1.trans k2).trans k3
          exact keepC2 hx HCr.out.2.1 (fun a e h => ⟨HCr.out.2.2 a e h, HA4.out r Ar HCr.out.2.1 a e h⟩)
        clear q20 q21 q40 q41 g20 g21 g40 g41 z4
        generalize World.setCell (World.setCell w5 _ _) _ _ = Wf at *
        have k40 := cellB y4 0
        have k41 := cellB y4 1
        simp only [List.getElem?_toArray, List.getElem?_cons_zero, List.getElem?_cons_succ] at k40 k41
        have yR2 := Kd.R_reads' yR
        rw [List.length_map] at yR2
        rw [HFr.out, feedL_none HNE.out, if_neg (by decide)]
        simp only [List.append_nil]
        exact bodyPost_ret (v := .tuple #[.agg #[.slice Ar r.length cr, .int .i64 0], .slice Av done.length cv, .int .i64 0]) (by simp [results, Tryz.f9, go_sem, k40, k41]) rfl ⟨Ar, cr, Av, cv, rfl, HCr.out.1, yC, HV.out, yR2.2.2, Kd.R_lower yR (by have := HLT.out; omega), yB⟩
      · have hnb : ((n : Int) == 0) = false := by rw [beq_eq_false_iff_ne]; omega
        obtain ⟨R, ls, hRt, hRn, hLn, hlo⟩ := head_len r n hn0 hho
        have HNX := Aside0.mk (nextL_head r n hn0 hho (refLen (-1) ls) hlo)
        have hnr : n ≤ r.length := by omega
        obtain ⟨c1, _⟩ := cutR Ar r cr n hnr HCr.out.1 HCW.out
        have htk := take_C HCW.out n hnr
        have htl : (r.take n).length = n := by rw [List.length_take]; omega
        have HLR := Aside0.mk (fun (W : World) (hb : Below wr.heap.size wr W) => Length_ref Ar cr R ls hLn W (by
          have h := Kd.C_below htk hb
          rw [htl, hRt, ← hRn] at h
          exact h) (by have := HCr.out.1; omega) (by have := HM.out.2; have := HNN.out; omega))
        rw [hRn] at HLR
        clear hRt hlo htk htl hho hLn
        have HRN := Aside0.mk hRn
        clear hRn
        generalize refLen (-1) ls = q at *
        go_wp2_with (go_at_call 18; refine HHD.out.mono ?_; rintro e w5 ⟨rfl, hb5⟩; obtain ⟨q20, q21, g20, g21⟩ := cell2 ((hb5.block _ (blk_lt HBK.out.1)).trans HBK.out.1); have HB5 := Aside0.mk hb5; clear hb5)
        refine (HLR.out w5 HB5.out).mono ?_
        rintro e w6 ⟨rfl, hb6⟩
        have HB6 := Aside0.mk (below_step HB5.out hb6)
        clear q20 q21 g20 g21 k20 k21 k40 k41 f20 f21 f40 f41 hb6
        obtain ⟨q20, q21, g20, g21⟩ := cell2 ((HB6.out.block _ (blk_lt HBK.out.1)).trans HBK.out.1)
        obtain ⟨q40, q41, g40, g41⟩ := cell2 ((HB6.out.block _ (blk_lt HBK.out.2)).trans HBK.out.2)
        by_cases c1q : q < 0
        · have c1b : decide (q < 0) = true := decide_eq_true c1q
          have hnx := HNX.out
          rw [if_pos c1q] at hnx
          have HNE := Aside0.mk hnx
          clear hnx c1q
          go_wp2_with (fail)
          have z2 := blk_set (blk_set ((HB6.out.block _ (blk_lt HBK.out.1)).trans HBK.out.1) 1 (.int .i64 30)) 0 (.slice none 0 0)
          have z4 := blk_far (p := ⟨w.heap.size, 0, none⟩) (blk_far (p := ⟨w.heap.size, 1, none⟩) ((HB6.out.block _ (blk_lt HBK.out.2)).trans HBK.out.2) (by show w.heap.size + 1 ≠ w.heap.size; omega) (.int .i64 30)) (by show w.heap.size + 1 ≠ w.heap.size; omega) (.slice none 0 0)
          simp only [List.setIfInBounds_toArray, List.set_cons_zero, List.set_cons_succ] at z2
          have zB := ((below_step HBw.out HB6.out).setCell (p := ⟨w.heap.size, 1, none⟩) (Nat.le_refl _) (.int .i64 30)).setCell (p := ⟨w.heap.size, 0, none⟩) (Nat.le_refl _) (.slice none 0 0)
          have zR : OwnRows ((w6.setCell ⟨w.heap.size, 1, none⟩ (.int .i64 30)).setCell ⟨w.heap.size, 0, none⟩ (.slice none 0 0)) w2.heap.size (.slice Av done.length cv) (done.map ints) := Kd.R_mono (Kd.R_step (Kd.R_bound (Kd.R_below HO.out HB6.out)) (fun i hi hlt => (Below.heap_setCell _ ⟨w.heap.size, 0, none⟩ _ i (by have h1 := hi.2.1; have h2 := HLT.out; show i ≠ w.heap.size; omega)).trans (Below.heap_setCell _ ⟨w.heap.size, 1, none⟩ _ i (by have h1 := hi.2.1; have h2 := HLT.out; show i ≠ w.heap.size; omega)))) (fun _ _ => trivial)
          clear q20 q21 q40 q41 g20 g21 g40 g41
          generalize World.setCell (World.setCell w6 _ _) _ _ = WE at *
          have k20 := cellB z2 0
          have k21 := cellB z2 1
          have k40 := cellB z4 0
          have k41 := cellB z4 1
          have f40 := frozenB z4 0
          have f41 := frozenB z4 1
          simp only [List.getElem?_toArray, List.getElem?_cons_zero, List.getElem?_cons_succ] at k20 k21 k40 k41
          have HZ := Aside0.mk (And.intro z4 (And.intro zB zR))
          clear z2 z4 zB zR
          go_region
          all_goals
            go_wp2_with (fail)
            have y4 := blk_set (blk_set HZ.out.1 0 (.slice none 0 0)) 1 (.int .i64 30)
            simp only [List.setIfInBounds_toArray, List.set_cons_zero, List.set_cons_succ] at y4
            have yB := below_drew ((HZ.out.2.1.setCell (p := ⟨w.heap.size + 1, 0, none⟩) (by show w.heap.size ≤ w.heap.size + 1; omega) (.slice none 0 0)).setCell (p := ⟨w.heap.size + 1, 1, none⟩) (by show w.heap.size ≤ w.heap.size + 1; omega) (.int .i64 30))
            have yR : OwnRows ((WE.setCell ⟨w.heap.size + 1, 0, none⟩ (.slice none 0 0)).setCell ⟨w.heap.size + 1, 1, none⟩ (.int .i64 30)).drew w2.heap.size (.slice Av done.length cv) (done.map ints) := Kd.R_drew (Kd.R_mono (Kd.R_step (Kd.R_bound HZ.out.2.2) (fun i hi hlt => (Below.heap_setCell _ ⟨w.heap.size + 1, 1, none⟩ _ i (by have h1 := hi.2.1; have h2 := HLT.out; show i ≠ w.heap.size + 1; omega)).trans (Below.heap_setCell _ ⟨w.heap.size + 1, 0, none⟩ _ i (by have h1 := hi.2.1; have h2 := HLT.out; show i ≠ w.heap.size + 1; omega)))) (fun _ _ => trivial))
            have y4' : ((WE.setCell ⟨w.heap.size + 1, 0, none⟩ (.slice none 0 0)).setCell ⟨w.heap.size + 1, 1, none⟩ (.int .i64 30)).drew.heap[w.heap.size + 1]? = some (.cells #[.slice none 0 0, .int .i64 30] 30 (0, 0)) := y4
            clear k20 k21 k40 k41 f40 f41 y4
            generalize World.drew (World.setCell (World.setCell WE _ _) _ _) = Wf at *
            have k40 := cellB y4' 0
            have k41 := cellB y4' 1
            simp only [List.getElem?_toArray, List.getElem?_cons_zero, List.getElem?_cons_succ] at k40 k41
            have yR2 := Kd.R_reads' yR
            rw [List.length_map] at yR2
            rw [HFr.out, feedL_none HNE.out, if_pos (by decide)]
            simp only [List.append_nil]
            exact bodyPost_ret (v := .tuple #[.agg #[.slice none 0 0, .int .i64 30], .slice Av done.length cv, .int .i64 30]) (by simp [results, Tryz.f9, go_sem, k40, k41]) rfl ⟨none, 0, Av, cv, rfl, Nat.le_refl _, Kd.C_nil _ _, HV.out, yR2.2.2, Kd.R_lower yR (by have := HLT.out; omega), yB⟩
        · have c1b : decide (q < 0) = false := decide_eq_false c1q
          by_cases c2q : 65536 < q
          · have c2b : decide (65536 < q) = true := decide_eq_true c2q
            have hnx := HNX.out
            rw [if_neg c1q, if_pos c2q] at hnx
            have HNE := Aside0.mk hnx
            clear hnx c1q c2q
            go_wp2_with (fail)
            have z2 := blk_set (blk_set ((HB6.out.block _ (blk_lt HBK.out.1)).trans HBK.out.1) 1 (.int .i64 31)) 0 (.slice none 0 0)
            have z4 := blk_far (p := ⟨w.heap.size, 0, none⟩) (blk_far (p := ⟨w.heap.size, 1, none⟩) ((HB6.out.block _ (blk_lt HBK.out.2)).trans HBK.out.2) (by show w.heap.size + 1 ≠ w.heap.size; omega) (.int .i64 31)) (by show w.heap.size + 1 ≠ w.heap.size; omega) (.slice none 0 0)
            simp only [List.setIfInBounds_toArray, List.set_cons_zero, List.set_cons_succ] at z2
            have zB := ((below_step HBw.out HB6.out).setCell (p := ⟨w.heap.size, 1, none⟩) (Nat.le_refl _) (.int .i64 31)).setCell (p := ⟨w.heap.size, 0, none⟩) (Nat.le_refl _) (.slice none 0 0)
            have zR : OwnRows ((w6.setCell ⟨w.heap.size, 1, none⟩ (.int .i64 31)).setCell ⟨w.heap.size, 0, none⟩ (.slice none 0 0)) w2.heap.size (.slice Av done.length cv) (done.map ints) := Kd.R_mono (Kd.R_step (Kd.R_bound (Kd.R_below HO.out HB6.out)) (fun i hi hlt => (Below.heap_setCell _ ⟨w.heap.size, 0, none⟩ _ i (by have h1 := hi.2.1; have h2 := HLT.out; show i ≠ w.heap.size; omega)).trans (Below.heap_setCell _ ⟨w.heap.size, 1, none⟩ _ i (by have h1 := hi.2.1; have h2 := HLT.out; show i ≠ w.heap.size; omega)))) (fun _ _ => trivial)
            clear q20 q21 q40 q41 g20 g21 g40 g41
            generalize World.setCell (World.setCell w6 _ _) _ _ = WE at *
            have k20 := cellB z2 0
            have k21 := cellB z2 1
            have k40 := cellB z4 0
            have k41 := cellB z4 1
            have f40 := frozenB z4 0
            have f41 := frozenB z4 1
            simp only [List.getElem?_toArray, List.getElem?_cons_zero, List.getElem?_cons_succ] at k20 k21 k40 k41
            have HZ := Aside0.mk (And.intro z4 (And.intro zB zR))
            clear z2 z4 zB zR
            go_region
            all_goals
              go_wp2_with (fail)
              have y4 := blk_set (blk_set HZ.out.1 0 (.slice none 0 0)) 1 (.int .i64 31)
              simp only [List.setIfInBounds_toArray, List.set_cons_zero, List.set_cons_succ] at y4
              have yB := below_drew ((HZ.out.2.1.setCell (p := ⟨w.heap.size + 1, 0, none⟩) (by show w.heap.size ≤ w.heap.size + 1; omega) (.slice none 0 0)).setCell (p := ⟨w.heap.size + 1, 1, none⟩) (by show w.heap.size ≤ w.heap.size + 1; omega) (.int .i64 31))
              have yR : OwnRows ((WE.setCell ⟨w.heap.size + 1, 0, none⟩ (.slice none 0 0)).setCell ⟨w.heap.size + 1, 1, none⟩ (.int .i64 31)).drew w2.heap.size (.slice Av done.length cv) (done.map ints) := Kd.R_drew (Kd.R_mono (Kd.R_step (Kd.R_bound HZ.out.2.2) (fun i hi hlt => (Below.heap_setCell _ ⟨w.heap.size + 1, 1, none⟩ _ i (by have h1 := hi.2.1; have h2 := HLT.out; show i ≠ w.heap.size + 1; omega)).trans (Below.heap_setCell _ ⟨w.heap.size + 1, 0, none⟩ _ i (by have h1 := hi.2.1; have h2 := HLT.out; show i ≠ w.heap.size + 1; omega)))) (fun _ _ => trivial))
              have y4' : ((WE.setCell ⟨w.heap.size + 1, 0, none⟩ (.slice none 0 0)).setCell ⟨w.heap.size + 1, 1, none⟩ (.int .i64 31)).drew.heap[w.heap.size + 1]? = some (.cells #[.slice none 0 0, .int .i64 31] 30 (0, 0)) := y4
              clear k20 k21 k40 k41 f40 f41 y4
              generalize World.drew (World.setCell (World.setCell WE _ _) _ _) = Wf at *
              have k40 := cellB y4' 0
              have k41 := cellB y4' 1
              simp only [List.getElem?_toArray, List.getElem?_cons_zero, List.getElem?_cons_succ] at k40 k41
              have yR2 := Kd.R_reads' yR
              rw [List.length_map] at yR2
              rw [HFr.out, feedL_none HNE.out, if_pos (by decide)]
              simp only [List.append_nil]
              exact bodyPost_ret (v := .tuple #[.agg #[.slice none 0 0, .int .i64 31], .slice Av done.length cv, .int .i64 31]) (by simp [results, Tryz.f9, go_sem, k40, k41]) rfl ⟨none, 0, Av, cv, rfl, Nat.le_refl _, Kd.C_nil _ _, HV.out, yR2.2.2, Kd.R_lower yR (by have := HLT.out; omega), yB⟩
          · have c2b : decide (65536 < q) = false := decide_eq_false c2q
            obtain ⟨l, rfl⟩ : ∃ l : Nat, q = (l : Int) := ⟨q.toNat, by omega⟩
            have hnx := HNX.out
            rw [if_neg c1q, if_neg c2q] at hnx
            have hl65 : l ≤ 65536 := by omega
            clear c1q c2q
            have hwn : wrap64 ((n : Int) + (l : Int)) = (n : Int) + (l : Int) := by unfold wrap64; omega
            by_cases c3 : (r.length : Int) < (n : Int) + (l : Int)
            · have c3b : decide ((r.length : Int) < (n : Int) + (l : Int)) = true := decide_eq_true c3
              rw [if_pos c3] at hnx
              have HNE := Aside0.mk hnx
              clear hnx
              go_wp2_with (fail)
              have z4 := (HB6.out.block _ (blk_lt HBK.out.2)).trans HBK.out.2
              have y4 := blk_set (blk_set z4 0 (.slice Ar r.length cr)) 1 (.int .i64 0)
              simp only [List.setIfInBounds_toArray, List.set_cons_zero, List.set_cons_succ] at y4
              have yB := ((below_step HBw.out HB6.out).setCell (p := ⟨w.heap.size + 1, 0, none⟩) (by show w.heap.size ≤ w.heap.size + 1; omega) (.slice Ar r.length cr)).setCell (p := ⟨w.heap.size + 1, 1, none⟩) (by show w.heap.size ≤ w.heap.size + 1; omega) (.int .i64 0)
              have yR : OwnRows ((w6.setCell ⟨w.heap.size + 1, 0, none⟩ (.slice Ar r.length cr)).setCell ⟨w.heap.size + 1, 1, none⟩ (.int .i64 0)) w2.heap.size (.slice Av done.length cv) (done.map ints) := Kd.R_mono (Kd.R_step (Kd.R_bound (Kd.R_below HO.out HB6.out)) (fun i hi hlt => (Below.heap_setCell _ ⟨w.heap.size + 1, 1, none⟩ _ i (by have h1 := hi.2.1; have h2 := HLT.out; show i ≠ w.heap.size + 1; omega)).trans (Below.heap_setCell _ ⟨w.heap.size + 1, 0, none⟩ _ i (by have h1 := hi.2.1; have h2 := HLT.out; show i ≠ w.heap.size + 1; omega)))) (fun _ _ => trivial)
              have yC : Kd.C (Kd.int .u8) ((w6.setCell ⟨w.heap.size + 1, 0, none⟩ (.slice Ar r.length cr)).setCell ⟨w.heap.size + 1, 1, none⟩ (.int .i64 0)) Ar r.length (ints r) := by
                have hx : KeepX (fun i => i = w.heap.size ∨ i = w.heap.size + 1) X ((w6.setCell ⟨w.heap.size + 1, 0, none⟩ (.slice Ar r.length cr)).setCell ⟨w.heap.size + 1, 1, none⟩ (.int .i64 0)) := by
                  have k1 := (HK.out.1.mono (fun k _ hk => (.inl hk : k = w.heap.size ∨ k = w.heap.size + 1))).trans (KeepX.of_below HB6.out)
                  have k2 : KeepX (fun i => i = w.heap.size ∨ i = w.heap.size + 1) w6 (w6.setCell ⟨w.heap.size + 1, 0, none⟩ (.slice Ar r.length cr)) := KeepX.setCell _ (.inr rfl) _
                  have k3 : KeepX (fun i => i = w.heap.size ∨ i = w.heap.size + 1) (w6.setCell ⟨w.heap.size + 1, 0, none⟩ (.slice Ar r.length cr)) ((w6.setCell ⟨w.heap.size + 1, 0, none⟩ (.slice Ar r.length cr)).setCell ⟨w.heap.size + 1, 1, none⟩ (.int .i64 0)) := by
                    have h := (Below.refl 0 (w6.setCell ⟨w.heap.size + 1, 0, none⟩ (.slice Ar r.length cr))).setCell (p := ⟨w.heap.size + 1, 1, none⟩) (Nat.zero_le _) (.int .i64 0)
                    exact ⟨h.os, h.tape, h.output, h.size, fun k _ hx => Below.heap_setCell _ ⟨w.heap.size + 1, 1, none⟩ _ k (fun e => hx (.inr e))⟩
                  exact (k1.trans k2).trans k3
                exact keepC2 hx HCr.out.2.1 (fun a e h => ⟨HCr.out.2.2 a e h, HA4.out r Ar HCr.out.2.1 a e h⟩)
              clear q20 q21 q40 q41 g20 g21 g40 g41 z4
              generalize World.setCell (World.setCell w6 _ _) _ _ = Wf at *
              have k40 := cellB y4 0
              have k41 := cellB y4 1
              simp only [List.getElem?_toArray, List.getElem?_cons_zero, List.getElem?_cons_succ] at k40 k41
              have yR2 := Kd.R_reads' yR
              rw [List.length_map] at yR2
              rw [HFr.out, feedL_none HNE.out, if_neg (by decide)]
              simp only [List.append_nil]
              exact bodyPost_ret (v := .tuple #[.agg #[.slice Ar r.length cr, .int .i64 0], .slice Av done.length cv, .int .i64 0]) (by simp [results, Tryz.f9, go_sem, k40, k41]) rfl ⟨Ar, cr, Av, cv, rfl, HCr.out.1, yC, HV.out, yR2.2.2, Kd.R_lower yR (by have := HLT.out; omega), yB⟩
            · have c3b : decide ((r.length : Int) < (n : Int) + (l : Int)) = false := decide_eq_false c3
              rw [if_neg c3] at hnx
              have HNE := Aside0.mk hnx
              have hnl : n + l ≤ r.length := by omega
              obtain ⟨Am, cm, hCm⟩ := cutM Ar r cr n l hnl HCr.out.1 HCW.out
              obtain ⟨_, Ad, cd, hCd⟩ := cutR Ar r cr (n + l) hnl HCr.out.1 HCr.out.2.1
              have cd' : ∀ w0 : World, (Instr.slice 27 (.slice Ar r.length cr) (some (.int .i64 ((n : Int) + (l : Int)))) none none).run Tryz.prog w0 = .ok (.slice Ad (r.length - (n + l)) (cr - (n + l))) w0 := cd
              have hbl : ((r.drop n).take l).length = l := by rw [List.length_take, List.length_drop]; omega
              have hcp := fun (W : World) (hb : Below wr.heap.size wr W) => Copy_calls Am (cr - n) ((r.drop n).take l) W (by rw [hbl]; exact Kd.C_below hCm hb) (by rw [hbl]; have := HCr.out.1; omega) (by rw [hbl]; omega)
              rw [hbl] at hcp
              have HCP := Aside0.mk hcp
              have HCD := Aside0.mk (And.intro hCd hbl)
              have HNL := Aside0.mk (And.intro hnl (And.intro hn0 hl65))
              clear hnx cd hCm hCd hbl hcp
              go_wp2_with (first | (go_at_call 15; refine (HCP.out w6 HB6.out).mono ?_; rintro e w7 ⟨A7, c7, rfl, hr7, hb7⟩; have H7 := Aside0.mk (And.intro hr7 (And.intro hb7 ((hb7.block _ (Nat.lt_of_lt_of_le (blk_lt HBK.out.1) HB6.out.size)).trans ((HB6.out.block _ (blk_lt HBK.out.1)).trans HBK.out.1)))); clear hr7 hb7) | (at_builtin; refine Kd.R_append (Kd.slice 5 (Kd.int .u8)) (w0 := w7) w2.heap.size rfl (.tmp 55) (.tmp 64) 22 27 (.slice none 0 0) 24 rfl Tryz.underlying22 info22 rfl (by decide) (by decide) (.slice Av done.length cv) (done.map ints) (ints ((r.drop n).take l)) [.slice A7 l c7] (fun _ => True) (fun i => w6.heap.size ≤ i) rfl rfl ?aP ?aK ?aF ?aO ?aB ?aS ?aL ?_; (case aP => exact ⟨_, rfl, Kd.R_mono (Kd.R_lower (Kd.R_bound H7.out.1) (by have h1 := HK.out.2; have h2 := HB6.out.size; omega)) (fun i hi => hi.2.1)⟩); (case aK => exact fun i hi => ⟨trivial, fun e => by have h1 := Kd.R_lt HO.out i e.symm; have h2 := HB6.out.size; omega⟩); (case aF => exact fun _ _ => trivial); (case aO => exact Kd.R_mono (Kd.R_below (Kd.R_below HO.out HB6.out) H7.out.2.1) (fun _ _ => trivial)); (case aB => exact Below.refl _ _); (case aS => have h1 := HK.out.2; have h2 := HB6.out.size; have h3 := H7.out.2.1.size; omega); (case aL => have h1 := HM.out.2; have h2 := HNN.out; simp; omega); intro v8 w8 hr8 hb8 hg8 ht8; have k8 : w8.heap[w.heap.size]? = some (.cells #[.slice Ar r.length cr, .int .i64 0] 30 (0, 0)) := (hg8.block w.heap.size (blk_lt H7.out.2.2) (fun e => by have h1 := Kd.R_base HO.out w.heap.size e.symm; have h2 := HLT.out; omega)).trans H7.out.2.2; obtain ⟨q20, q21, g20, g21⟩ := cell2 k8; have H8 := Aside0.mk (And.intro hr8 (And.intro hb8 (And.intro hg8 (And.intro ht8 k8)))); clear hr8 hb8 hg8 ht8 k8))
              obtain ⟨hR8, hB8, hg8, hat8, k8⟩ := H8.out
              obtain ⟨hr7, hb7, k7⟩ := H7.out
              obtain ⟨G, rfl⟩ : ∃ G, gk = G + 1 := ⟨gk - 1, by have := HM.out.1; omega⟩
              go_roundg G
              case measure => omega
              case rel =>
                have hdl : (r.drop (n + l)).length = r.length - (n + l) := List.length_drop
                have hlt := HLT.out
                have hk2 := HK.out.2
                have s6 := HB6.out.size
                have s7 := hb7.size
                have s8 := hg8.size
                have hob : ∀ k, (Value.slice Av done.length cv).ownBlock = some k → w2.heap.size ≤ k := fun k e => Kd.R_base HO.out k e
                have k84 : w8.heap[w.heap.size + 1]? = some (.cells #[.slice none 0 0, .int .i64 0] 30 (0, 0)) := (hg8.block (w.heap.size + 1) (by omega) (fun e => by have h1 := hob _ e.symm; omega)).trans ((hb7.block _ (by omega)).trans ((HB6.out.block _ (by omega)).trans HBK.out.2))
                have n2 := blk_set k8 0 (.slice Ad (r.length - (n + l)) (cr - (n + l)))
                have n4 := blk_far (p := ⟨w.heap.size, 0, none⟩) k84 (by show w.heap.size + 1 ≠ w.heap.size; omega) (.slice Ad (r.length - (n + l)) (cr - (n + l)))
                have nK : KeepX (fun i => i = w.heap.size) X (w8.setCell ⟨w.heap.size, 0, none⟩ (.slice Ad (r.length - (n + l)) (cr - (n + l)))) := by
                  have k1 := (HK.out.1.trans (KeepX.of_below HB6.out)).trans (KeepX.of_below hb7)
                  have hxs := HK.out.1.size
                  have k2 : KeepX (fun i => i = w.heap.size) X w8 := ⟨hg8.os.trans k1.os, hg8.tape.trans k1.tape, hg8.output.trans k1.output, Nat.le_trans k1.size hg8.size, fun i hi hx => (hg8.block i (Nat.lt_of_lt_of_le hi k1.size) (fun e => by have h1 := hob i e.symm; have h2 := HSZ.out; omega)).trans (k1.block i hi hx)⟩
                  have k3 : KeepX (fun i => i = w.heap.size) w8 (w8.setCell ⟨w.heap.size, 0, none⟩ (.slice Ad (r.length - (n + l)) (cr - (n + l)))) := KeepX.setCell (X := fun i => i = w.heap.size) w8 (b := w.heap.size) rfl _
                  exact k2.trans k3
                have nR : OwnRows (w8.setCell ⟨w.heap.size, 0, none⟩ (.slice Ad (r.length - (n + l)) (cr - (n + l)))) w2.heap.size v8 ((done ++ [(r.drop n).take l]).map ints) := by
                  rw [List.map_append]
                  exact Kd.R_mono (Kd.R_step (Kd.R_bound hR8) (fun i hi hlt => Below.heap_setCell _ ⟨w.heap.size, 0, none⟩ _ i (by have h1 := hi.2.1; have h2 := HLT.out; show i ≠ w.heap.size; omega))) (fun _ _ => trivial)
                have hne := HNE.out
                rw [Int.toNat_natCast] at hne
                have nF := HFr.out
                rw [feedL_some hne] at nF
                refine ⟨done ++ [(r.drop n).take l], r.drop (n + l), Ad, cr - (n + l), ⟨?_⟩, ⟨?_, n4⟩, ⟨?_, HCD.out.1, fun a e h => HA2.out _ _ HCD.out.1 a e h⟩, ⟨nR⟩, ⟨nK, ?_⟩, ⟨?_, ?_⟩⟩
                · rw [nF, List.append_assoc]
                  rfl
                · rw [hdl]
                  exact n2
                · rw [hdl]
                  have := HCr.out.1
                  omega
                · show w2.heap.size ≤ (w8.setCell ⟨w.heap.size, 0, none⟩ (.slice Ad (r.length - (n + l)) (cr - (n + l)))).heap.size
                  rw [World.size_setCell]
                  omega
                · rw [hdl]
                  have h1 := HM.out.1
                  have h2 := HNL.out
                  omega
                · rw [hdl]
                  have h1 := HM.out.2
                  have h2 := HNL.out
                  simp only [List.length_append, List.length_cons, List.length_nil]
                  omega
end Go.Proofs.YtomebmjjgkcjiaaGreatDoor.G
