/-
  strings.ContainsAny of a line's end: its contract.
-/
import Derived.Test.YtomebmjjgkcjiaaGreatDoorFrameBase
import Derived.Test.YtomebmjjgkcjiaaGreatDoorConvEv
import Derived.Lib.OthersKept
import Derived.Lib.TrimUEq
import Derived.Lib.QuoteLoop
import Derived.Lib.SpaceUEq
namespace Go.Proofs.YtomebmjjgkcjiaaGreatDoor.G
open Go.RowKit Go.Proofs.YtomebmjjgkcjiaaGreatDoorW.PrintWords Go.Lib
theorem ValidRune_ok (r : Int) (w : World) (h0 : 128 ≤ r) (h1 : r ≤ 1114111) (hs : ¬ (55296 ≤ r ∧ r ≤ 57343)) : Calls Tryz.prog 92 #[.int .i32 r] w fun e w' => e = .returned (.bool true) ∧ w = w' := by
  by_cases c : r < 55296
  · have t1 : decide (r < 55296) = true := by simp; omega
    go_enter Tryz.func92, Tryz.ntmps92
    go_wp2
    go_ret
    exact ⟨rfl, rfl⟩
  · have t1 : decide (r < 55296) = false := by simp; omega
    have t2 : decide (57343 < r) = true := by simp; omega
    go_enter Tryz.func92, Tryz.ntmps92
    go_wp2
    go_ret
    exact ⟨rfl, rfl⟩
set_option maxHeartbeats 2000000 in
set_option maxRecDepth 100000 in
theorem IndexRune_far (r : Int) (w : World) (h0 : 128 ≤ r) (h1 : r ≤ 1114111) (hs : ¬ (55296 ≤ r ∧ r ≤ 57343)) (hne : r ≠ 65533) :
    Calls Tryz.prog 78 #[.string ⟨#[13, 10]⟩, .int .i32 r] w fun e w' => e = .returned (.int .i64 (-1)) ∧ Below w.heap.size w w' := by
  have HV := Aside0.mk (fun W => ValidRune_ok r W h0 h1 hs)
  have t1 : decide (r < 128) = false := by simp; omega
  have t2 : (r == 65533) = false := by simpa using hne
  have HS := Aside0.mk hs
  clear hs
  go_enter Tryz.func78, Tryz.ntmps78
  go_wp2_with (go_at_call 92; refine (HV.out _).mono ?_; rintro e w' ⟨rfl, rfl⟩)
  go_step3
  go_wp2_with (fail)
  have hf := encode_facts r (by have := HS.out; unfold Utf8.valid; simp; omega) h0
  obtain ⟨E, hE⟩ : ∃ E, Utf8.encode r = E := ⟨_, rfl⟩
  rw [hE]
  rw [hE] at hf
  obtain ⟨f1, f2, f3⟩ := hf
  clear hE HV
  by_cases c2 : E.size = 2
  · obtain ⟨x, hx⟩ : ∃ x : UInt8, E[1]'(by omega) = x := ⟨_, rfl⟩
    have hx1 : 128 ≤ x.toNat := by
      have := f3 (by omega)
      have e1 : E.size - 1 = 1 := by omega
      simp only [e1, hx] at this
      exact this
    have hlt : 1 < E.size := by omega
    have hw1 : wrap64 ((E.size : Int) - 1) = 1 := by unfold wrap64; omega
    rw [hw1]
    have hs1 : ((((⟨#[13, 10]⟩ : ByteArray)[1]'(by decide)).toNat : Int) != (x.toNat : Int)) = true := by
      have e10 : ((⟨#[13, 10]⟩ : ByteArray)[1]'(by decide)).toNat = 10 := rfl
      rw [e10]
      simp; omega
    clear f1 f2 f3 hw1
    go_loopg [9] 1 (fun g v wx => wx = w ∧ v = .int .i64 1 ∧ g = 1)
    case atStart => exact ⟨rfl, rfl, rfl⟩
    case round =>
      obtain ⟨rfl, rfl, rfl⟩ := hrel
      go_wp2_with (fail)
      go_step3
      go_wp2_with (fail)
      go_quiet (fail)
      have HB5 := Aside0.mk (pw_below_drewN (Below.refl wr.heap.size wr) nq)
      generalize wr.drewN nq = w5 at *
      go_wp2_with (fail)
      go_quiet ((go_at_call 91; exact Calls.quiet_of_same (Any.strings_IndexByte { Tryz.lays152 with } _ _ _)))
      have hid : Lib.indexByte ByteArray.empty.data.toList (x.toNat : Int).toNat.toUInt8 = -1 := rfl
      rw [hid]
      have HB6 := Aside0.mk (pw_below_drewN HB5.out nq)
      generalize w5.drewN nq = w6 at *
      go_wp2_with (fail)
      rw [Exit.noGoto_ret]
      go_wp2_with (fail)
      rw [Exit.noGoto_ret]
      go_wp2_with (fail)
      go_ret
      exact ⟨rfl, HB6.out⟩
  · have hw1 : wrap64 ((E.size : Int) - 1) = ((E.size - 1 : Nat) : Int) := by unfold wrap64; omega
    obtain ⟨m, hm⟩ : ∃ m, E.size - 1 = m := ⟨_, rfl⟩
    rw [hw1, hm]
    have hm2 : ¬ ((m : Int) < 2) := by omega
    clear f1 f2 f3 hw1
    go_loopg [9] 1 (fun g v wx => wx = w ∧ v = .int .i64 m ∧ g = 1)
    case atStart => exact ⟨rfl, rfl, rfl⟩
    case round =>
      obtain ⟨rfl, rfl, rfl⟩ := hrel
      go_wp2_with (fail)
      go_ret
      exact ⟨rfl, Below.refl _ _⟩
set_option maxHeartbeats 2000000 in
set_option maxRecDepth 100000 in
theorem IndexRune_bad (w : World) :
    Calls Tryz.prog 78 #[.string ⟨#[13, 10]⟩, .int .i32 65533] w fun e w' => e = .returned (.int .i64 (-1)) ∧ Below w.heap.size w w' := by
  go_enter Tryz.func78, Tryz.ntmps78
  go_wp2_with (fail)
  have hn0 := fun ty => run_next_ascii (P := Tryz.prog) w ⟨#[13, 10]⟩ 0 ty (by decide) (by decide)
  have hn1 := fun ty => run_next_ascii (P := Tryz.prog) w ⟨#[13, 10]⟩ 1 ty (by decide) (by decide)
  have hn2 := fun ty => run_next_end (P := Tryz.prog) w ⟨#[13, 10]⟩ 2 ty (by decide)
  have v0 : ((((⟨#[13, 10]⟩ : ByteArray)[0]'(by decide)).toNat : Nat) : Int) = 13 := rfl
  have v1 : ((((⟨#[13, 10]⟩ : ByteArray)[1]'(by decide)).toNat : Nat) : Int) = 10 := rfl
  rw [v0] at hn0
  rw [v1] at hn1
  go_loopg [5] 3 (fun g _ wx => ∃ i : Nat, i + g = 3 ∧ wx = w.iter ⟨#[13, 10]⟩ i)
  case atStart => exact ⟨0, rfl, rfl⟩
  case round =>
    obtain ⟨i, hig, rfl⟩ := hrel
    match i, gk, hig with
    | 0, _, _ =>
      go_wp2_with (fail)
      go_roundg 2
      case measure => omega
      case rel => exact ⟨1, by omega, rfl⟩
    | 1, _, _ =>
      go_wp2_with (fail)
      go_roundg 1
      case measure => omega
      case rel => exact ⟨2, by omega, rfl⟩
    | 2, _, _ =>
      go_wp2_with (fail)
      go_ret
      exact ⟨rfl, (Below.refl _ _).alloc (Nat.le_refl _) _⟩
    | i + 3, g, h =>
      have hg : g = 0 := by omega
      have hi : i = 0 := by omega
      subst hg hi
      have hn3 := fun ty => run_next_end (P := Tryz.prog) w ⟨#[13, 10]⟩ 3 ty (by decide)
      go_wp2_with (fail)
      go_ret
      exact ⟨rfl, (Below.refl _ _).alloc (Nat.le_refl _) _⟩
theorem IndexRune_calls (r : Int) (w : World) (h0 : 0 ≤ r) (h1 : r ≤ 1114111) (hs : ¬ (55296 ≤ r ∧ r ≤ 57343)) :
    Calls Tryz.prog 78 #[.string ⟨#[13, 10]⟩, .int .i32 r] w fun e w' => e = .returned (.int .i64 (if r = 13 then 0 else if r = 10 then 1 else -1)) ∧ Below w.heap.size w w' := by
  by_cases c1 : r < 128
  · refine (Any.strings_IndexRune_ascii Tryz.lays152 _ _ _ h0 c1).mono ?_
    rintro e w' ⟨rfl, rfl⟩
    refine ⟨?_, Below.refl _ _⟩
    have : ∀ n : Nat, n < 128 → Lib.indexByte (⟨#[13, 10]⟩ : ByteArray).data.toList n.toUInt8 = if n = 13 then 0 else if n = 10 then 1 else -1 := by decide
    rw [this r.toNat (by omega)]
    have e1 : (r.toNat = 13) = (r = 13) := by apply propext; omega
    have e2 : (r.toNat = 10) = (r = 10) := by apply propext; omega
    simp only [e1, e2]
  · have n1 : ¬ r = 13 := by omega
    have n2 : ¬ r = 10 := by omega
    rw [if_neg n1, if_neg n2]
    by_cases c2 : r = 65533
    · subst c2; exact IndexRune_bad w
    · exact IndexRune_far r w (by omega) h1 hs c2
theorem dec_facts (l : List UInt8) (hne : l ≠ []) :
    ((∃ b, l[0]? = some b ∧ b.toNat < 128 ∧ decodeL l = (b.toNat, 1))) ∨ (128 ≤ (decodeL l).1 ∧ (decodeL l).1 ≤ 1114111 ∧ ¬ (55296 ≤ (decodeL l).1 ∧ (decodeL l).1 ≤ 57343) ∧ ∀ j b, j < (decodeL l).2 → l[j]? = some b → 128 ≤ b.toNat) := by
  obtain ⟨b0, t, rfl⟩ : ∃ b t, l = b :: t := by cases l with | nil => exact absurd rfl hne | cons b t => exact ⟨b, t, rfl⟩
  by_cases h0 : b0.toNat < 128
  · left
    exact ⟨b0, rfl, h0, decodeL_ascii b0 t h0⟩
  right
  have hv : (decodeL (b0 :: t)).1 < 55296 ∨ (57343 < (decodeL (b0 :: t)).1 ∧ (decodeL (b0 :: t)).1 ≤ 1114111) := by
    rw [decodeL_N]; exact decodeN_valid _ _ _ _ _ (UInt8.toNat_lt _)
  have hc := decodeN_conts (b0 :: t).length ((b0 :: t).getD 0 0).toNat ((b0 :: t).getD 1 0).toNat ((b0 :: t).getD 2 0).toNat ((b0 :: t).getD 3 0).toNat
  have hs := decodeN_shape (b0 :: t).length ((b0 :: t).getD 0 0).toNat ((b0 :: t).getD 1 0).toNat ((b0 :: t).getD 2 0).toNat ((b0 :: t).getD 3 0).toNat
  rw [← decodeL_N] at hc hs
  have g0 : ((b0 :: t).getD 0 0) = b0 := rfl
  rw [g0] at hs
  refine ⟨?_, by omega, by omega, ?_⟩
  · rcases hs with ⟨h, _⟩ | ⟨_, _, _, h, e⟩ | ⟨_, _, _, _, h, _, e⟩ | ⟨_, _, _, _, _, h, _, e⟩ | e
    · exact absurd h h0
    · rw [e]; exact h
    · rw [e]; exact Nat.le_trans (by decide) h
    · rw [e]; exact Nat.le_trans (by decide) h
    · rw [e]; decide
  · intro j b hj hb
    have hget : ∀ k, (b0 :: t)[k]? = some b → ((b0 :: t).getD k 0) = b := by
      intro k hk
      rw [List.getD_eq_getElem?_getD, hk]; rfl
    match j, hb with
    | 0, hb =>
      simp at hb
      subst hb
      omega
    | 1, hb =>
      have := hc.1 (by omega)
      rw [hget 1 hb] at this
      omega
    | 2, hb =>
      have := hc.2.1 (by omega)
      rw [hget 2 hb] at this
      omega
    | 3, hb =>
      have := hc.2.2.1 (by omega)
      rw [hget 3 hb] at this
      omega
    | j + 4, _ => have := hc.2.2.2; omega
theorem contains_line (b : UInt8) : ([13, 10] : List UInt8).contains b = (decide (b.toNat = 13) || decide (b.toNat = 10)) := by
  have e1 : (b == 13) = decide (b.toNat = 13) := by
    rw [Bool.eq_iff_iff]; simp [← UInt8.toNat_inj]
  have e2 : (b == 10) = decide (b.toNat = 10) := by
    rw [Bool.eq_iff_iff]; simp [← UInt8.toNat_inj]
  rw [← e1, ← e2]
  simp only [List.contains_cons, List.contains_nil, Bool.or_false]
set_option maxHeartbeats 2000000 in
set_option maxRecDepth 100000 in
theorem IndexAny_short (s : ByteArray) (w : World) (hs : s.size ≤ 8) :
    Calls Tryz.prog 65 #[.string s, .string ⟨#[13, 10]⟩] w fun e w' => e = .returned (.int .i64 (Lib.indexAny s.data.toList [13, 10])) ∧ Below w.heap.size w w' := by
  have h8z : decide ((8 : Int) < (s.size : Int)) = false := decide_eq_false (by omega)
  have HS := Aside0.mk hs
  have HI := Aside0.mk IndexRune_calls
  clear hs
  go_enter Tryz.func65, Tryz.ntmps65
  go_wp2_with (go_at_call 79; refine (Any.strings_shouldUseASCIISet { Tryz.lays153 with } _ _).mono ?_; rintro e w' ⟨rfl, hw⟩; rw [hw, h8z])

  go_loopg [9, 10] (s.size + 1) (fun g _ _ wx => ∃ i : Nat, Aside0 (s.size - i < g ∧ i ≤ s.size ∧ wx.heap[w.heap.size]? = some (.stringIter s i) ∧ Below w.heap.size w wx ∧ Lib.NoAny s.data.toList [13, 10] i))
  case atStart => exact ⟨0, ⟨by omega, Nat.zero_le _, World.iter_heap _ _ _, (Below.refl _ _).alloc (Nat.le_refl _) _, Lib.NoAny.zero _ _⟩⟩
  case round =>
    obtain ⟨i, HR⟩ := hrel
    by_cases hlt : i < s.size
    · obtain ⟨h1, h2, h3, h4, h5⟩ := HR.out
      obtain ⟨c, n, hd⟩ : ∃ c n, Utf8.decode s i = (c, n) := ⟨_, _, rfl⟩
      have hnext : ∀ ty, (Instr.next (.pointer (some ⟨w.heap.size, 0, none⟩)) true ty).run Tryz.prog wr = .ok (.tuple #[.bool true, .int .i64 i, .int .i32 c]) (wr.iterAt w.heap.size s (i + n)) := fun ty => by
        have := Lib.run_next_any_at (P := Tryz.prog) wr w.heap.size s i ty h3 hlt
        rw [hd] at this
        exact this
      have hne : s.data.toList.drop i ≠ [] := by
        intro e
        have := congrArg List.length e
        rw [List.length_drop, ← Lib.size_eq] at this
        simp at this
        omega
      have hdd : decodeL (s.data.toList.drop i) = (c, n) := by rw [decodeL_drop]; exact hd
      have hF := dec_facts _ hne
      have hle := decodeL_le _ hne
      have hn1 := decodeL_width (s.data.toList.drop i)
      rw [hdd] at hF hle hn1
      rw [List.length_drop, ← Lib.size_eq] at hle
      simp only at hF hle hn1
      have hrun : 0 ≤ (c : Int) ∧ (c : Int) ≤ 1114111 ∧ ¬ (55296 ≤ (c : Int) ∧ (c : Int) ≤ 57343) := by
        rcases hF with ⟨b, _, hb, he⟩ | ⟨_, _, _, _⟩
        · simp only [Prod.mk.injEq] at he; omega
        · omega
      obtain ⟨K, hK⟩ : ∃ K : Int, (if (c : Int) = 13 then (0 : Int) else if (c : Int) = 10 then 1 else -1) = K := ⟨_, rfl⟩
      have HC := Aside0.mk (fun W => HI.out c W hrun.1 hrun.2.1 hrun.2.2)
      rw [hK] at HC
      have hW2 := Lib.iterAt_heap wr w.heap.size s i (i + n) h3
      have hB2 := Lib.below_iterAt h4 (Nat.le_refl _) s (i + n)
      obtain ⟨W2, hw2⟩ : ∃ W2, wr.iterAt w.heap.size s (i + n) = W2 := ⟨_, rfl⟩
      rw [hw2] at hnext hW2 hB2
      have HB2 := Aside0.mk (And.intro hW2 hB2)
      have HF := Aside0.mk (And.intro hF (And.intro hK (And.intro hle hn1)))
      have Hlt := Aside0.mk hlt
      clear hF hK hle hn1 h1 h2 h3 h4 h5 hdd hne hd hrun hW2 hB2 hw2 hlt
      have hap : W2.heap.size > w.heap.size := (Array.getElem?_eq_some_iff.1 HB2.out.1).1
      have Hap := Aside0.mk hap
      clear hap
      by_cases hk : 0 ≤ K
      · go_wp2_with (go_at_call 78; refine (HC.out _).mono ?_; rintro e w3 ⟨rfl, hb⟩; have HB3 := Aside0.mk hb; clear hb)
        go_ret
        obtain ⟨hF, hK, hle, hn1⟩ := HF.out
        refine ⟨?_, HB2.out.2.trans (HB3.out.mono (Nat.le_of_lt Hap.out))⟩
        have hc : c = 13 ∨ c = 10 := by
          by_cases c1 : (c : Int) = 13
          · omega
          · by_cases c2 : (c : Int) = 10
            · omega
            · rw [if_neg c1, if_neg c2] at hK; omega
        rcases hF with ⟨b, hb, _, he⟩ | ⟨_, _, _, _⟩
        · simp only [Prod.mk.injEq] at he
          rw [List.getElem?_drop, Nat.add_zero] at hb
          rw [Lib.indexAny_hit HR.out.2.2.2.2 hb (by rw [contains_line]; rcases hc with h | h <;> simp <;> omega)]
          rfl
        · omega
      · go_wp2_with (go_at_call 78; refine (HC.out _).mono ?_; rintro e w3 ⟨rfl, hb⟩; have HB3 := Aside0.mk hb; clear hb)
        obtain ⟨g, rfl⟩ : ∃ g, gk = g + 1 := ⟨gk - 1, by have := HR.out.1; omega⟩
        go_roundg g
        case measure => omega
        case rel =>
          refine ⟨i + n, ⟨?_, ?_, ?_, ?_, ?_⟩⟩
          · have := HR.out.1; have := HF.out.2.2.2; have := Hlt.out; omega
          · have := HF.out.2.2.1; have := Hlt.out; omega
          · rw [HB3.out.block _ Hap.out]; exact HB2.out.1
          · exact HB2.out.2.trans (HB3.out.mono (Nat.le_of_lt Hap.out))
          · obtain ⟨hF, hK, hle, hn1⟩ := HF.out
            have hc : c ≠ 13 ∧ c ≠ 10 := by
              refine ⟨fun e => ?_, fun e => ?_⟩
              · subst e; simp at hK; omega
              · subst e; simp at hK; omega
            intro j b hj hb
            by_cases hji : j < i
            · exact HR.out.2.2.2.2 j b hji hb
            · have hb' : (s.data.toList.drop i)[j - i]? = some b := by rw [List.getElem?_drop]; rw [show i + (j - i) = j by omega]; exact hb
              rw [contains_line]
              rcases hF with ⟨b0, hb0, _, he⟩ | ⟨_, _, _, h⟩
              · simp only [Prod.mk.injEq] at he
                have : j - i = 0 := by omega
                rw [this, hb0] at hb'
                cases hb'
                simp
                omega
              · have := h (j - i) b (by omega) hb'
                simp
                omega
    · have hend : ∀ ty, (Instr.next (.pointer (some ⟨w.heap.size, 0, none⟩)) true ty).run Tryz.prog wr = .ok (.tuple #[.bool false]) wr := fun ty => Lib.run_next_end_at wr w.heap.size s i ty HR.out.2.2.1 hlt
      go_wp2_with (fail)
      go_ret
      refine ⟨?_, HR.out.2.2.2.1⟩
      rw [Lib.indexAny_none (by have := HR.out.2.2.2.2; have e : i = s.data.toList.length := by rw [← Lib.size_eq]; have := HR.out.2.1; omega
                                rw [← e]; exact this)]
      rfl
set_option maxRecDepth 100000 in
theorem info88 : (Tryz.prog.info? 88).map (fun i => (i.zero, i.size)) = some (some (.agg (Array.replicate 256 (.bool false))), 256) := by kernel_rfl
set_option maxRecDepth 100000 in
theorem IndexAny_calls (s : ByteArray) (w : World) (hs : s.size < 4294967281) :
    Calls Tryz.prog 65 #[.string s, .string ⟨#[13, 10]⟩] w fun e w' => e = .returned (.int .i64 (Lib.indexAny s.data.toList [13, 10])) ∧ Below w.heap.size w w' := by
  by_cases h8 : s.size ≤ 8
  · exact IndexAny_short s w h8
  · have he := (zero_of_info info88)
    refine (Any.strings_IndexAny_long Tryz.lays153 he.1 he.2 s ⟨#[13, 10]⟩ w (by decide) (by omega) hs (by decide) ?_).mono fun e w' ⟨h1, h2⟩ => ⟨h1, ?_⟩
    · intro j b hb
      match j, hb with
      | 0, hb => cases hb; decide
      | 1, hb => cases hb; decide
    · rw [h2]
      exact ((Below.refl _ _).alloc (Nat.le_refl _) _).alloc (by simp) _
set_option maxHeartbeats 2000000 in
theorem ContainsAny_calls (s : ByteArray) (w : World) (hs : s.size < 4294967281) :
    Calls Tryz.prog 45 #[.string s, .string ⟨#[13, 10]⟩] w fun e w' => e = .returned (.bool (Lib.containsAny s.data.toList [13, 10])) ∧ Below w.heap.size w w' := by
  have HI := Aside0.mk (IndexAny_calls s w hs)
  clear hs
  go_enter Tryz.func45, Tryz.ntmps45
  go_wp2_with (go_at_call 65; refine HI.out.mono ?_; rintro e w' ⟨rfl, hw⟩; have HW := Aside0.mk hw; clear hw)
  go_ret
  exact ⟨rfl, HW.out⟩
def GContainsAny.f (a0 a1 : ByteArray) : Option Bool := if a1 = ⟨#[13, 10]⟩ ∧ a0.size < 4294967281 then some (Lib.containsAny a0.data.toList [13, 10]) else none
theorem GContainsAny.calls (a0 a1 : ByteArray) (r : Bool) (w : World) (h : GContainsAny.f a0 a1 = some r) :
    Calls Tryz.prog 45 #[.string a0, .string a1] w fun e w' => e = .returned (.bool r) ∧ Below w.heap.size w w' := by
  unfold GContainsAny.f at h
  split at h
  case isFalse => cases h
  case isTrue hs =>
    obtain ⟨rfl, hs⟩ := hs
    obtain rfl := Option.some.inj h
    exact ContainsAny_calls a0 w hs
end Go.Proofs.YtomebmjjgkcjiaaGreatDoor.G
