/-
  frame.length: its contract.
-/
import Derived.Test.YtomebmjjgkcjiaaGreatDoorFrameNum
set_option linter.unusedVariables false
namespace Go.Proofs.YtomebmjjgkcjiaaGreatDoor.G
open Go.RowKit Go.Lib Go.Proofs.YtomebmjjgkcjiaaGreatDoorW.PrintWords
attribute [local go_sem] Oper.semAt_some
/-- The world behind strings.SplitSeq. -/
def splitWorld (w : World) (s sep : ByteArray) : World := ((w.alloc (.cells #[.string s] 9)).alloc (.cells #[.string sep] 9)).alloc (.cells #[.int .i64 0] 3)
def splitFn (w : World) : Value := .func (.func 53) #[] #[.pointer (some ⟨w.heap.size + 1, 0, none⟩), .pointer (some ⟨w.heap.size, 0, none⟩), .pointer (some ⟨w.heap.size + 2, 0, none⟩)]
theorem splitSeq_calls (s sep : ByteArray) (w : World) : Calls Tryz.prog 40 #[.string s, .string sep, .int .i64 0] w fun e w' => e = .returned (splitFn w) ∧ w' = splitWorld w s sep := by
  go_enter Tryz.func40, Tryz.ntmps40
  go_wp2
  go_ret
  exact ⟨by simp [splitFn], rfl⟩
theorem SplitSeq_calls (s sep : ByteArray) (w : World) : Calls Tryz.prog 29 #[.string s, .string sep] w fun e w' => e = .returned (splitFn w) ∧ w' = splitWorld w s sep := by
  go_enter Tryz.func29, Tryz.ntmps29
  go_wp2_with (go_at_call 40; refine (splitSeq_calls _ _ _).mono ?_; rintro e w' ⟨rfl, rfl⟩)
  go_ret
  exact ⟨rfl, rfl⟩
theorem splitWorld_boxes (w : World) (s sep : ByteArray) : Boxed (splitWorld w s sep) w.heap.size 9 (.string s) ∧ Boxed (splitWorld w s sep) (w.heap.size + 1) 9 (.string sep) ∧ Boxed (splitWorld w s sep) (w.heap.size + 2) 3 (.int .i64 0) := by
  have h1 := Boxed.new w 9 (.string s)
  have h2 := Boxed.new (w.alloc (.cells #[.string s] 9)) 9 (.string sep)
  have h3 := Boxed.new ((w.alloc (.cells #[.string s] 9)).alloc (.cells #[.string sep] 9)) 3 (.int .i64 0)
  simp only [World.size_alloc] at h2 h3
  exact ⟨(h1.alloc _).alloc _, h2.alloc _, h3⟩
theorem splitWorld_below (w : World) (s sep : ByteArray) : Below w.heap.size w (splitWorld w s sep) := below_alloc (below_alloc (below_alloc (Below.refl _ w) _) _) _
theorem splitWorld_size (w : World) (s sep : ByteArray) : (splitWorld w s sep).heap.size = w.heap.size + 3 := by simp [splitWorld]
theorem calls_round {P : Program} {l n : Nat} {f : FuncId} {args : Array Value} {w : World} {R : Ending → World → Prop} (h : Calls P f args w R) : CallsIn (Fence.wide.inRound l) n P f args w R := (callsIn_wide (n := n)).2 h
theorem splitGo_le : ∀ (n : Nat) (l x : List UInt8), x ∈ splitGo n l → x.length ≤ l.length
  | 0, l, x, h => by
    simp only [splitGo, List.mem_singleton] at h
    rw [h]; exact Nat.le_refl _
  | n + 1, l, x, h => by
    unfold splitGo at h
    split at h
    · simp only [List.mem_singleton] at h
      rw [h]; exact Nat.le_refl _
    · rcases List.mem_cons.1 h with rfl | h
      · rw [List.length_take]; omega
      · have := splitGo_le n _ x h
        rw [List.length_drop] at this
        omega
theorem splitC'_le (s x : ByteArray) (h : x ∈ splitC' s) : x.size ≤ s.size := by
  unfold splitC' at h
  obtain ⟨l, hl, rfl⟩ := List.mem_map.1 h
  have := splitGo_le _ _ _ hl
  rw [ofL_size, Lib.size_eq s]
  exact this
def dataL (xs : List ByteArray) : List (List UInt8) := xs.map fun x => x.data.toList
theorem dataL_split (s : ByteArray) : dataL (splitC' s) = splitC s.data.toList := by
  unfold dataL splitC'
  rw [List.map_map]
  exact List.map_id' _
set_option maxHeartbeats 4000000 in
set_option maxRecDepth 100000 in
theorem Length_calls (h : ByteArray) (w : World) (hT : TF w) (hs : h.size < 4294967281) :
    Calls Tryz.prog 23 #[.string h] w fun e w' => e = .returned (.tuple #[.int .i64 (lenOf h.data.toList).1, .int .i64 (lenOf h.data.toList).2]) ∧ Below w.heap.size w w' := by
  obtain ⟨s, hsd⟩ : ∃ s : ByteArray, ofL (trimSuffix h.data.toList [13, 10, 13, 10]) = s := ⟨_, rfl⟩
  have hss : s.size ≤ h.size := by rw [← hsd, ofL_size, Lib.size_eq h]; exact trimSuffix_le _ _
  have HTS := Aside0.mk (fun W => Any.strings_TrimSuffix Tryz.lays102 h ⟨#[13, 10, 13, 10]⟩ W (by omega))
  change Aside0 (∀ W, Calls _ _ _ W fun e w' => e = Ending.returned (.string (ofL (trimSuffix h.data.toList [13, 10, 13, 10]))) ∧ _) at HTS
  rw [hsd] at HTS
  have hlo : lenOf h.data.toList = match lenGo (-1) (dataL (splitC' s)) with
      | none => (0, 30)
      | some f => if f < 0 then (0, 30) else if 65536 < f then (0, 31) else (f, 0) := by
    rw [dataL_split, ← hsd]
    rfl
  obtain ⟨R, hR⟩ : ∃ R : Int × Int, lenOf h.data.toList = R := ⟨_, rfl⟩
  rw [hR] at hlo ⊢
  have HLO := Aside0.mk hlo
  clear hR
  have HT := Aside0.mk hT
  have Hs := Aside0.mk (show s.size < 4294967281 by omega)
  clear hT hs hlo hsd hss
  refine (callsIn_wide (n := 6)).1 ?_
  refine callsIn_of_wp_marks Tryz.func23 rfl trivial ?_ rfl
  simp only [Tryz.ntmps23, List.size_toArray, List.length_cons, List.length_nil, Nat.reduceAdd, Nat.reduceSub, Array.replicate_succ, Array.replicate_zero, List.push_toArray, List.append_toArray, List.nil_append, List.cons_append]
  gi_wp2_with (first | (refine ⟨trivial, ?_⟩; gi_at_call 30; refine (callsIn_wide.2 (HTS.out _)).mono ?_; rintro e w1 ⟨rfl, rfl⟩) | (refine ⟨trivial, ?_⟩; gi_at_call 29; refine (callsIn_wide.2 (SplitSeq_calls _ _ _)).mono ?_; rintro e w2 ⟨rfl, rfl⟩))
  obtain ⟨W0, hW0⟩ : ∃ W0, ((w.alloc (.cells #[.int .i64 0] 3)).alloc (.cells #[.int .i64 0] 28)).alloc (.cells #[.int .i64 (-1)] 3) = W0 := ⟨_, rfl⟩
  have z0 : W0.heap.size = w.heap.size + 3 := by rw [← hW0]; simp
  have b0 : Below w.heap.size w W0 := by rw [← hW0]; exact below_alloc (below_alloc (below_alloc (Below.refl _ w) _) _) _
  have c2 : Boxed W0 w.heap.size 3 (.int .i64 0) := by rw [← hW0]; exact ((Boxed.new w _ _).alloc _).alloc _
  have c3 : Boxed W0 (w.heap.size + 1) 28 (.int .i64 0) := by
    have := Boxed.new (w.alloc (.cells #[.int .i64 0] 3)) 28 (.int .i64 0)
    rw [World.size_alloc] at this
    rw [← hW0]
    exact this.alloc _
  have c4 : Boxed W0 (w.heap.size + 1 + 1) 3 (.int .i64 (-1)) := by
    have := Boxed.new ((w.alloc (.cells #[.int .i64 0] 3)).alloc (.cells #[.int .i64 0] 28)) 3 (.int .i64 (-1))
    rw [World.size_alloc, World.size_alloc] at this
    rw [← hW0]
    exact this
  rw [hW0]
  clear hW0
  obtain ⟨V, hV⟩ : ∃ V, splitWorld W0 s ⟨#[13, 10]⟩ = V := ⟨_, rfl⟩
  obtain ⟨hbs, hbp, hbv⟩ := splitWorld_boxes W0 s ⟨#[13, 10]⟩
  have hVb := splitWorld_below W0 s ⟨#[13, 10]⟩
  have hVz := splitWorld_size W0 s ⟨#[13, 10]⟩
  rw [hV] at hbs hbp hbv hVb hVz ⊢
  clear hV
  have vb : Below w.heap.size w V := b0.trans (hVb.mono b0.size)
  have v2 : Boxed V w.heap.size 3 (.int .i64 0) := (hVb.block _ (by omega)).trans c2
  have v3 : Boxed V (w.heap.size + 1) 28 (.int .i64 0) := (hVb.block _ (by omega)).trans c3
  have v4 : Boxed V (w.heap.size + 1 + 1) 3 (.int .i64 (-1)) := (hVb.block _ (by omega)).trans c4
  have VB := Aside0.mk vb
  have hmx := HT.out.1
  have hml : 0 < w.heap.size := by obtain ⟨m, hm⟩ := hmx; exact World.block_lt_of_cell? w _ hm
  have hmV : ∃ m, V.cell? ⟨0, 0, none⟩ = some (.int .i64 m) := by obtain ⟨m, hm⟩ := hmx; exact ⟨m, (vb.cell hml).trans hm⟩
  clear hmx c2 c3 c4 b0 hVb
  have UP := Aside0.mk (fun (Z : World) (hk : KeepX (fun k => (k = w.heap.size ∨ k = w.heap.size + 1 ∨ k = w.heap.size + 1 + 1) ∨ (k = W0.heap.size ∨ k = W0.heap.size + 1 ∨ k = W0.heap.size + 2)) V Z) => (show Below w.heap.size w Z from
    ⟨hk.os.trans vb.os, hk.tape.trans vb.tape, hk.output.trans vb.output, Nat.le_trans vb.size hk.size, fun k hk1 => (hk.block k (Nat.lt_of_lt_of_le hk1 vb.size) (by omega)).trans (vb.block k hk1)⟩))
  have HL := Aside0.mk (splitC'_le s)
  refine wpIn_rangeX (n := 6) (by omega) (gf := 53) (lb := #[.pointer (some ⟨W0.heap.size + 1, 0, none⟩), .pointer (some ⟨W0.heap.size, 0, none⟩), .pointer (some ⟨W0.heap.size + 2, 0, none⟩)]) rfl (enters_of Tryz.func53 (by kernel_rfl) rfl)
    (split_iter (6 - 1) s W0.heap.size (W0.heap.size + 1) (W0.heap.size + 2) V (by have := Hs.out; omega) (by omega) (by omega) hbs hbp hbv hmV (by intro k hk; omega)) (Below.refl _ _) (fun _ => rfl)
    (fun k hk => by omega) (fun k hk => by omega) (fun k => k = w.heap.size ∨ k = w.heap.size + 1 ∨ k = w.heap.size + 1 + 1)
    (fun k hk => by omega)
    (fun pre Z => (∃ f : Int, lenGo (-1) (dataL pre) = some f ∧ -1 ≤ f ∧ f < 1000000 ∧ Boxed Z (w.heap.size + 1 + 1) 3 (.int .i64 f)) ∧ Boxed Z w.heap.size 3 (.int .i64 0) ∧ Boxed Z (w.heap.size + 1) 28 (.int .i64 0))
    (fun c pre Z => c = .ret ∧ lenGo (-1) (dataL pre) = none ∧ Boxed Z w.heap.size 3 (.int .i64 0) ∧ Boxed Z (w.heap.size + 1) 28 (.int .i64 30))
    (fun pre A B h hk => by
      obtain ⟨⟨f, h1, h2, h3, h4⟩, h5, h6⟩ := h
      exact ⟨⟨f, h1, h2, h3, (hk _ (.inr (.inr rfl))).trans h4⟩, (hk _ (.inl rfl)).trans h5, (hk _ (.inr (.inl rfl))).trans h6⟩)
    (fun c pre A B h hk => ⟨h.1, h.2.1, (hk _ (.inl rfl)).trans h.2.2.1, (hk _ (.inr (.inl rfl))).trans h.2.2.2⟩)
    ⟨⟨-1, rfl, by omega, by omega, v4⟩, v2, v3⟩
    (fun x => { tmps := #[.string h, undef, .pointer (some ⟨w.heap.size, 0, none⟩), .pointer (some ⟨w.heap.size + 1, 0, none⟩), .pointer (some ⟨w.heap.size + 1 + 1, 0, none⟩), .string x, undef, undef, undef, undef, .string h, .string s, splitFn W0, .string x, undef, undef, undef, undef, undef, undef, undef, undef, undef, undef, undef, undef, undef, undef, undef, undef, undef, undef, undef, undef, undef, undef, undef, undef, undef, undef, undef, undef, undef], defers := [] }) ?assign ?body ?done ?stop
  case assign =>
    intro l x Z K hK
    gi_wp2
    exact hK
  case body =>
    rintro l pre x Z hl hr hk ⟨⟨f, hf, hf1, hf2, h4⟩, h2, h3⟩ hpx
    have hbz := UP.out Z hk
    have hxs : x.size < 4294967281 := by
      have := HL.out x (by obtain ⟨t, ht⟩ := hpx; rw [← ht]; simp)
      have := Hs.out
      omega
    have hsn : dataL (pre ++ [x]) = dataL pre ++ [x.data.toList] := by simp [dataL]
    have hstep : lenGo (-1) (dataL (pre ++ [x])) = lenStep f x.data.toList := by rw [hsn, lenGo_snoc, hf]
    have HC := Aside0.mk (Field_calls x Z (TF_below HT.out hbz) hxs)
    have HST := Aside0.mk hstep
    have hcl := cut_le x.data.toList [58]
    rw [← Lib.size_eq] at hcl
    have hvl : (fieldL x.data.toList).2.1.length < 4294967281 := by
      show (cut x.data.toList [58]).2.1.length < _
      omega
    unfold lenStep at HST
    generalize fieldL x.data.toList = F at *
    obtain ⟨name, value, ok⟩ := F
    simp only at HC HST hvl
    have HNV := Aside0.mk (fun W => GNumber.calls (ofL value) _ _ W (by unfold GNumber.f; rw [if_pos (by rw [ofL_size]; exact hvl), ofL_data, numL_eq]))
    have H4 := Aside0.mk h4
    have H2 := Aside0.mk h2
    have H3 := Aside0.mk h3
    have HF := Aside0.mk (And.intro hf1 hf2)
    clear hk hbz hxs hsn hstep hcl hvl hf h2 h3 h4 hf1 hf2
    cases ok with
    | false =>
      gi_wp2_with (refine ⟨trivial, ?_⟩; refine (calls_round HC.out).mono ?_; rintro e Z2 ⟨rfl, hb2⟩; have y2 := (show Boxed Z2 w.heap.size _ _ from (hb2.block _ H2.out.lt).trans H2.out); have y3 := (show Boxed Z2 (w.heap.size + 1) _ _ from (hb2.block _ H3.out.lt).trans H3.out); have i2 := y2.cell; have j2 := y2.frozen; have i3 := y3.cell; have j3 := y3.frozen; have Y2 := Aside0.mk y2; have Y3 := Aside0.mk y3; have HB2 := Aside0.mk hb2; clear y2 y3 hb2)
      refine ⟨(KeepX.of_below HB2.out).trans ((KeepX.setCell Z2 (.inl rfl) _).trans (KeepX.setCell _ (.inr (.inl rfl)) _)), rfl, HST.out, ?_, ?_⟩
      · exact Boxed.other (Boxed.set _ Y2.out) (by omega) _
      · exact Boxed.set _ (Boxed.other Y3.out (by omega) _)
    | true =>
      by_cases hn : name = lenName
      · have hE : ((ofL name).toList == [99, 111, 110, 116, 101, 110, 116, 45, 108, 101, 110, 103, 116, 104]) = true := by rw [Lib.toList_data, ofL_data, hn]; rfl
        rw [if_neg (by simp), if_neg (by simp [hn])] at HST
        cases hnv : numV value with
        | none =>
          rw [hnv] at HST HNV
          simp only at HST HNV
          clear hn hnv
          gi_wp2_with (first | (refine ⟨trivial, ?_⟩; gi_at_call 31; refine (calls_round HC.out).mono ?_; rintro e Z2 ⟨rfl, hb2⟩; have HB2 := Aside0.mk hb2; clear hb2) | (refine ⟨trivial, ?_⟩; gi_at_call 32; refine (calls_round (HNV.out _)).mono ?_; rintro e Z3 ⟨rfl, hb3⟩; have HB3 := Aside0.mk (below_step HB2.out hb3); clear hb3; have y2 := (show Boxed Z3 w.heap.size _ _ from (HB3.out.block _ H2.out.lt).trans H2.out); have y3 := (show Boxed Z3 (w.heap.size + 1) _ _ from (HB3.out.block _ H3.out.lt).trans H3.out); have y4 := (show Boxed Z3 (w.heap.size + 1 + 1) _ _ from (HB3.out.block _ H4.out.lt).trans H4.out); have i2 := y2.cell; have j2 := y2.frozen; have i3 := y3.cell; have j3 := y3.frozen; have i4 := y4.cell; have j4 := y4.frozen; have Y2 := Aside0.mk y2; have Y3 := Aside0.mk y3; have Y4 := Aside0.mk y4; clear y2 y3 y4))
          refine ⟨(KeepX.of_below HB3.out).trans ((KeepX.setCell Z3 (.inl rfl) _).trans (KeepX.setCell _ (.inr (.inl rfl)) _)), rfl, HST.out, ?_, ?_⟩
          · exact Boxed.other (Boxed.set _ Y2.out) (by omega) _
          · exact Boxed.set _ (Boxed.other Y3.out (by omega) _)

        | some n =>
          rw [hnv] at HST HNV
          simp only at HST HNV
          have HNB := Aside0.mk (numV_bound _ _ hnv)
          by_cases hf0 : 0 ≤ f
          · rw [if_pos hf0] at HST
            clear hn hnv
            gi_wp2_with (first | (refine ⟨trivial, ?_⟩; gi_at_call 31; refine (calls_round HC.out).mono ?_; rintro e Z2 ⟨rfl, hb2⟩; have HB2 := Aside0.mk hb2; clear hb2) | (refine ⟨trivial, ?_⟩; gi_at_call 32; refine (calls_round (HNV.out _)).mono ?_; rintro e Z3 ⟨rfl, hb3⟩; have HB3 := Aside0.mk (below_step HB2.out hb3); clear hb3; have y2 := (show Boxed Z3 w.heap.size _ _ from (HB3.out.block _ H2.out.lt).trans H2.out); have y3 := (show Boxed Z3 (w.heap.size + 1) _ _ from (HB3.out.block _ H3.out.lt).trans H3.out); have y4 := (show Boxed Z3 (w.heap.size + 1 + 1) _ _ from (HB3.out.block _ H4.out.lt).trans H4.out); have i2 := y2.cell; have j2 := y2.frozen; have i3 := y3.cell; have j3 := y3.frozen; have i4 := y4.cell; have j4 := y4.frozen; have Y2 := Aside0.mk y2; have Y3 := Aside0.mk y3; have Y4 := Aside0.mk y4; clear y2 y3 y4))
            refine ⟨(KeepX.of_below HB3.out).trans ((KeepX.setCell Z3 (.inl rfl) _).trans (KeepX.setCell _ (.inr (.inl rfl)) _)), rfl, HST.out, ?_, ?_⟩
            · exact Boxed.other (Boxed.set _ Y2.out) (by omega) _
            · exact Boxed.set _ (Boxed.other Y3.out (by omega) _)

          · rw [if_neg hf0] at HST
            clear hn hnv
            gi_wp2_with (first | (refine ⟨trivial, ?_⟩; gi_at_call 31; refine (calls_round HC.out).mono ?_; rintro e Z2 ⟨rfl, hb2⟩; have HB2 := Aside0.mk hb2; clear hb2) | (refine ⟨trivial, ?_⟩; gi_at_call 32; refine (calls_round (HNV.out _)).mono ?_; rintro e Z3 ⟨rfl, hb3⟩; have HB3 := Aside0.mk (below_step HB2.out hb3); clear hb3; have y2 := (show Boxed Z3 w.heap.size _ _ from (HB3.out.block _ H2.out.lt).trans H2.out); have y3 := (show Boxed Z3 (w.heap.size + 1) _ _ from (HB3.out.block _ H3.out.lt).trans H3.out); have y4 := (show Boxed Z3 (w.heap.size + 1 + 1) _ _ from (HB3.out.block _ H4.out.lt).trans H4.out); have i2 := y2.cell; have j2 := y2.frozen; have i3 := y3.cell; have j3 := y3.frozen; have i4 := y4.cell; have j4 := y4.frozen; have Y2 := Aside0.mk y2; have Y3 := Aside0.mk y3; have Y4 := Aside0.mk y4; clear y2 y3 y4))
            refine ⟨(KeepX.of_below HB3.out).trans (KeepX.setCell Z3 (.inr (.inr rfl)) _), ⟨n, HST.out, by omega, by have := HNB.out; omega, ?_⟩, ?_, ?_⟩
            · exact Boxed.set _ Y4.out
            · exact Boxed.other Y2.out (by omega) _
            · exact Boxed.other Y3.out (by omega) _
      · have hE : ((ofL name).toList == [99, 111, 110, 116, 101, 110, 116, 45, 108, 101, 110, 103, 116, 104]) = false := by
          rw [Lib.toList_data, ofL_data]
          simpa [lenName] using hn
        rw [if_neg (by simp), if_pos hn] at HST
        clear hn
        gi_wp2_with (refine ⟨trivial, ?_⟩; gi_at_call 31; refine (calls_round HC.out).mono ?_; rintro e Z2 ⟨rfl, hb2⟩; have HB2 := Aside0.mk hb2; clear hb2)
        refine ⟨KeepX.of_below HB2.out, ⟨f, HST.out, HF.out.1, HF.out.2, ?_⟩, ?_, ?_⟩
        · exact (HB2.out.block _ H4.out.lt).trans H4.out
        · exact (HB2.out.block _ H2.out.lt).trans H2.out
        · exact (HB2.out.block _ H3.out.lt).trans H3.out
  case done =>
    rintro Z hk ⟨⟨f, hf, hf1, hf2, h4⟩, h2, h3⟩ hD
    have hbz := UP.out Z hk
    have e4 := h4.cell
    have e2 := h2.cell
    have g2 := h2.frozen
    have e3 := h3.cell
    have g3 := h3.frozen
    have H2 := Aside0.mk h2
    have H3 := Aside0.mk h3
    have HD := Aside0.mk hD
    have HBZ := Aside0.mk hbz
    have HF := Aside0.mk hf
    clear h2 h3 h4 hk hD hbz hf
    have FIN := Aside0.mk (fun (r1 r2 : Int) => (show ((Z.setCell ⟨w.heap.size, 0, none⟩ (.int .i64 r1)).setCell ⟨w.heap.size + 1, 0, none⟩ (.int .i64 r2)).heap[V.heap.size]? = some (.deferred (some [])) ∧ (((Z.setCell ⟨w.heap.size, 0, none⟩ (.int .i64 r1)).setCell ⟨w.heap.size + 1, 0, none⟩ (.int .i64 r2)).putObj V.heap.size (.deferred none)).cell? ⟨w.heap.size, 0, none⟩ = some (.int .i64 r1) ∧ (((Z.setCell ⟨w.heap.size, 0, none⟩ (.int .i64 r1)).setCell ⟨w.heap.size + 1, 0, none⟩ (.int .i64 r2)).putObj V.heap.size (.deferred none)).cell? ⟨w.heap.size + 1, 0, none⟩ = some (.int .i64 r2) ∧ Below w.heap.size w (((Z.setCell ⟨w.heap.size, 0, none⟩ (.int .i64 r1)).setCell ⟨w.heap.size + 1, 0, none⟩ (.int .i64 r2)).putObj V.heap.size (.deferred none)) from by
      have s1 := KeepX.setCell (X := fun k => k = w.heap.size) Z (b := w.heap.size) rfl (.int .i64 r1)
      have s2 := KeepX.setCell (X := fun k => k = w.heap.size + 1) (Z.setCell ⟨w.heap.size, 0, none⟩ (.int .i64 r1)) (b := w.heap.size + 1) rfl (.int .i64 r2)
      have hDl : V.heap.size < Z.heap.size := (Array.getElem?_eq_some_iff.1 HD.out).1
      have hvs := VB.out.size
      have hD2 := (s2.block V.heap.size (Nat.lt_of_lt_of_le hDl s1.size) (by omega)).trans ((s1.block V.heap.size hDl (by omega)).trans HD.out)
      have k6 : Boxed (((Z.setCell ⟨w.heap.size, 0, none⟩ (.int .i64 r1)).setCell ⟨w.heap.size + 1, 0, none⟩ (.int .i64 r2)).putObj V.heap.size (.deferred none)) w.heap.size 3 (.int .i64 r1) := (World.putObj_heap_other (by omega)).trans (Boxed.other (Boxed.set _ H2.out) (by omega) _)
      have k7 : Boxed (((Z.setCell ⟨w.heap.size, 0, none⟩ (.int .i64 r1)).setCell ⟨w.heap.size + 1, 0, none⟩ (.int .i64 r2)).putObj V.heap.size (.deferred none)) (w.heap.size + 1) 28 (.int .i64 r2) := (World.putObj_heap_other (by omega)).trans (Boxed.set _ (Boxed.other H3.out (by omega) _))
      exact ⟨hD2, k6.cell, k7.cell, ((HBZ.out.setCell (p := ⟨w.heap.size, 0, none⟩) (Nat.le_refl _) _).setCell (p := ⟨w.heap.size + 1, 0, none⟩) (by simp) _).trans (belowK_b (w := w) (Nat.le_refl _) _ V.heap.size _ _ (by omega) hD2 rfl rfl)⟩))
    clear hVz z0 hbs hbp hbv
    have hlo := HLO.out
    rw [HF.out] at hlo
    simp only at hlo
    clear HLO HF
    by_cases c1 : f < 0
    · rw [if_pos c1] at hlo
      have HR := Aside0.mk hlo
      clear hlo
      gi_wp2
      obtain ⟨hD2, k6, k7, hB⟩ := FIN.out 0 30
      refine ⟨by simp, .inl ⟨_, _, rfl, run_takeDeferred hD2, ?_⟩⟩
      refine ⟨.tuple #[.int .i64 0, .int .i64 30], ?_, by rw [HR.out], hB⟩
      simp [results, Tryz.f23, go_sem, k6, k7]
    · rw [if_neg c1] at hlo
      by_cases c2 : 65536 < f
      · rw [if_pos c2] at hlo
        have HR := Aside0.mk hlo
        clear hlo
        gi_wp2
        obtain ⟨hD2, k6, k7, hB⟩ := FIN.out 0 31
        refine ⟨by simp, .inl ⟨_, _, rfl, run_takeDeferred hD2, ?_⟩⟩
        refine ⟨.tuple #[.int .i64 0, .int .i64 31], ?_, by rw [HR.out], hB⟩
        simp [results, Tryz.f23, go_sem, k6, k7]
      · rw [if_neg c2] at hlo
        have HR := Aside0.mk hlo
        clear hlo
        gi_wp2
        obtain ⟨hD2, k6, k7, hB⟩ := FIN.out f 0
        refine ⟨by simp, .inl ⟨_, _, rfl, run_takeDeferred hD2, ?_⟩⟩
        refine ⟨.tuple #[.int .i64 f, .int .i64 0], ?_, by rw [HR.out], hB⟩
        simp [results, Tryz.f23, go_sem, k6, k7]
  case stop =>
    rintro c pre Z hk hpx ⟨rfl, hg, h2, h3⟩ hD
    have hbz := UP.out Z hk
    have hnone : lenGo (-1) (dataL (splitC' s)) = none := by
      obtain ⟨t, ht⟩ := hpx
      rw [← ht]
      unfold dataL at hg ⊢
      rw [List.map_append]
      exact lenGo_stop _ _ _ hg
    clear hk
    have HBZ := Aside0.mk hbz
    have hlo := HLO.out
    rw [hnone] at hlo
    simp only at hlo
    have HNO := Aside0.mk hlo
    clear hlo HLO
    clear hbz hnone hg
    have HVW := Aside0.mk (show w.heap.size + 5 < V.heap.size by omega)
    clear hVz z0 hbs hbp hbv
    gi_wp2
    have hvw := HVW.out
    refine ⟨by simp, .inl ⟨_, _, rfl, run_takeDeferred hD, ?_⟩⟩
    have k6 : Boxed (Z.putObj V.heap.size (.deferred none)) w.heap.size 3 (.int .i64 0) := (World.putObj_heap_other (by omega)).trans h2
    have k7 : Boxed (Z.putObj V.heap.size (.deferred none)) (w.heap.size + 1) 28 (.int .i64 30) := (World.putObj_heap_other (by omega)).trans h3
    have g6' := k6.cell
    have g7' := k7.cell
    refine ⟨.tuple #[.int .i64 0, .int .i64 30], ?_, by rw [HNO.out], ?_⟩
    · simp [results, Tryz.f23, go_sem, g6', g7']
    · exact HBZ.out.trans (belowK_b (w := w) (Nat.le_refl _) _ V.heap.size _ _ (by have := VB.out.size; omega) hD rfl rfl)
end Go.Proofs.YtomebmjjgkcjiaaGreatDoor.G
